import Derived.Test.YthcalfeoejdcgaaGreatDoorK16
import Derived.Test.YthcalfeoejdcgaaGreatDoorK17
import Derived.Test.YthcalfeoejdcgaaGreatDoorK18
import Derived.Test.YthcalfeoejdcgaaGreatDoorK19
import Derived.Test.YthcalfeoejdcgaaGreatDoorK20
import Derived.Test.YthcalfeoejdcgaaGreatDoorK21
import Derived.ArgAppend
import Derived.Deep.RegionHeld3
import Derived.Deep.CutRange
namespace Go.Proofs.YthcalfeoejdcgaaGreatDoor
set_option linter.unusedSimpArgs false
set_option linter.unusedVariables false
set_option maxRecDepth 100000
set_option maxHeartbeats 20000000
section
open Go.BigFrame Go.RowKit
def yf6 (e:TypeId):Kin Knd Knd where
 enc:=yas
 C:=2
 e:=e
 ptrs:=fun _=> []
 D:=fun _ a b=>a=b
 len:=zcu
 pos:=by omega
 one:=ykf
 later:=fun h _=>h
 kept:=fun h _ _=>h
 lt:=fun _ p hp=>by cases hp
theorem zgm {e:TypeId}{w:World}{A:Option Addr}{n:Nat}{l:List Knd}:rD (yf6 e) w A n l↔rKnd w A n l:=
 ⟨fun ⟨es,h1,h2⟩=>by have e:es=l:=zdz h2;subst e;exact h1,fun h=>⟨l,h,zbg l⟩⟩
theorem yyq :(Tryz.prog.info? 84).map (fun i=>(i.zero,i.size,i.bytes))=some (some (.agg #[.int .i64 0, .bool false]),2,16):=by kernel_rfl
theorem pK84 : ∃ i,KinP Tryz.prog (yf6 84) 81 i (.agg #[.int .i64 0, .bool false]) 16:=by
 obtain ⟨i0,hi,hz0,hz1,hz2⟩:=info_parts yyq
 exact ⟨i0,⟨Tryz.underlying81,hi,hz0,hz1,hz2,rfl,by omega⟩⟩
section
variable {K:Kin Knd Knd}{P:Program}{t:TypeId}{i:TypeInfo}{z:Value}{bytes:Nat}
theorem ykr {e:TypeId}(hP:KinP P (yf6 e) t i z bytes)(w:World){A:Option Addr}{n:Nat}{l:List Knd}(h:rKnd w A n l)(ty:TypeId)(ad:Addr)(c:Nat)(b:Knd)
 (hc: ∀ j u,(yas b)[j]?=some u->w.cell? (ad.add j)=some u) (hn:n<1000000):
 ∃ v' w',(Builtin.append_ #[t,t] ty #[.slice A n n, .slice (some ad) 1 c]).run P w= .ok v' w'/\ownD (yf6 e) w' w.heap.size v' (n+1) (l++ [b])/\w.grownBy w' none:=by
 cases A with
 |none=>
  have hn0:n=0:=by
   rcases Nat.eq_zero_or_pos n with h0|h0
   ·exact h0
   ·obtain ⟨b,off,e,_⟩:=(show Fl w 2 none n (flat yas l) from h).2 h0
    cases e
  subst hn0
  have hl:l= []:=List.eq_nil_of_length_eq_zero h.len
  subst hl
  obtain ⟨v',w',hr,g1,g2,_⟩:=zfo hP w (ownD.nil (K:=yf6 e) w w.heap.size) ty ad b b hc rfl (fun p hp=>by cases hp) qF (qV _) (c:=c)
  exact ⟨v',w',hr,g1,g2⟩
 |some ad0=>
  obtain ⟨v',w',hr,g1,g2⟩:=run_append_arg_grows (P:=P) w t ty e i z 2 bytes hP.ht hP.hi hP.hz hP.hs hP.hb hP.hzs qF ad0 n n (flat yas l) (by rw [zau zcu,h.len]) (fun j u hj=>by
   rcases Nat.eq_zero_or_pos n with h0|h0
   ·have:=h.len
    rw [h0] at this
    have hl:l= []:=List.eq_nil_of_length_eq_zero this
    subst hl
    simp [flat] at hj
   ·obtain ⟨b,off,e,hcell⟩:=(show Fl w 2 (some ad0) n (flat yas l) from h).2 h0
    cases e
    rw [zaw]
    exact hcell j u hj) ad 1 c (yas b) (by rw [zcu]) hc qF (by unfold maxLen;omega) (by have:=hP.small;have h5:(n+1)*bytes<=1000000*1000:=Nat.mul_le_mul qF this;omega)
  refine ⟨v',w',hr,⟨l++ [b],?_,zbg _,fun a _ p hp=>by cases hp⟩,g2⟩
  rw [show flat (yf6 e).enc (l++ [b])=flat yas l++yas b by rw [zc2,zl7];rfl]
  exact g1
variable (w:World){ops:Array Oper}{rest:List Oper}{o:Oper}{a:Act}{Q:Exit->Act->World->Prop}
theorem zqg {K':Act->World->Prop}{E:Prop}{e:TypeId}(hg:o.guard=none)(s x:Operand)(hop:o.op=Op.call { callee:=Callee.builtin Builtin.append,args:= #[s,x],argTypes:= #[t,t]})
 (hP:KinP P (yf6 e) t i z bytes) {A:Option Addr} {n:Nat} {l:List Knd} (h:rKnd w A n l) (ad:Addr) (c:Nat) (b:Knd) (hs:a.eval s= .slice A n n) (hx:a.eval x= .slice (some ad) 1 c)
 (hc: ∀ j u,(yas b)[j]?=some u->w.cell? (ad.add j)=some u) (hn:n<1000000)
 (hK: ∀ v' w',ownD (yf6 e) w' w.heap.size v' (n+1) (l++ [b])->w.grownBy w' none->K' (a.put o.dst v') w'):
 if Region.wanted o (yielded ops a.tmps)=true then Oper.wp P o a w K' Q else E:=by
 have hw:Region.wanted o (yielded ops a.tmps)=true:=by simp [Region.wanted,hg]
 rw [if_pos hw]
 obtain ⟨v',w',hr,h2,h3⟩:=ykr hP w h o.type ad c b hc hn
 unfold Oper.wp execOp
 simp only [hop,resolve,invoke,builtin,Sem.run_bind,Sem.run_pure,Result.andThen_ok,List.map_toArray,List.map_cons,List.map_nil,hs,hx,hr]
 exact hK v' w' h2 h3
end
theorem zbd (x:Bool):inR ⟨1,x⟩/\inR ⟨2,x⟩/\inR ⟨3,x⟩/\inR ⟨4,x⟩:=⟨⟨by simp,by simp⟩,⟨by simp,by simp⟩,⟨by simp,by simp⟩,⟨by simp,by simp⟩⟩
theorem zo2 {a b:Knd}(ha:inR a)(hb:inR b)(x:Bool):inR ⟨(ydn a b).1,x⟩:=by
 unfold ydn
 split
 ·exact hb
 ·exact ha
theorem yyl :inR ynv:=⟨by simp [ynv],by simp [ynv]⟩
theorem zkv {l:List Knd}(h: ∀ a∈l,inR a)(j:Nat):inR (l.getD j ynv):=by
 rw [List.getD_eq_getElem?_getD]
 cases hj:l[j]? with
 |none=>exact yyl
 |some a=>exact h a (qP hj)
theorem yod {cs:List Col}{n:Nod}{l:List Knd}(hn:okN cs n)(hl: ∀ a∈l,inR a):inR (ylr n l).1:=by
 have ha:=zkv hl 0
 have hb:=zkv hl 1
 have hc:=zkv hl 2
 have hcst:=hn.cst
 have hop:n.op=0∨n.op=1∨n.op=2∨n.op=3∨n.op=4∨n.op=5∨n.op=6∨n.op=7∨n.op=8∨n.op=9∨n.op=10∨n.op=11∨n.op=12∨n.op=13∨n.op=14∨n.op=15∨n.op=16∨n.op=17∨n.op=18∨n.op=19∨n.op=20:=by
  have:=hn.lo;have:=hn.hi;omega
 clear hn
 obtain ⟨op,vk,vm,vs,nm,ar⟩:=n
 simp only at hop hcst
 have two: ∀ (P:Prop) [Decidable P] (a b:Knd × Bool),inR a.1->inR b.1->inR (if P then a else b).1:=fun P _ a b h1 h2=>by
  split
  ·exact h1
  ·exact h2
 rcases hop with rfl|rfl|rfl|rfl|rfl|rfl|rfl|rfl|rfl|rfl|rfl|rfl|rfl|rfl|rfl|rfl|rfl|rfl|rfl|rfl|rfl
 ·have hv:=(hcst rfl).2
  show inR ⟨vk,vk==0⟩
  rcases za8 hv with e|⟨m,e,_⟩|⟨m,e,_⟩|⟨s,e,_⟩|⟨m,e,_⟩<;>(injection e with e1 _ _;exact ⟨by show 0<=vk;omega,by show vk<=4;omega⟩)
 ·exact (zbd _).2.1
 ·exact (zbd _).1
 ·exact (zbd _).2.1
 ·exact two _ _ _ (zbd _).2.2.2 (zbd _).2.1
 ·exact two _ _ _ (zbd _).2.1 (two _ _ _ (zbd _).2.2.2 (zbd _).2.1)
 ·exact (zbd _).2.1
 ·exact (zbd _).2.1
 ·exact (zbd _).2.1
 ·exact (zbd _).2.2.1
 ·exact (zbd _).1
 ·exact (zbd _).1
 ·exact (zbd _).1
 ·exact (zbd _).1
 ·exact (zbd _).1
 ·exact (zbd _).1
 ·exact (zbd _).1
 ·exact zo2 hb hc _
 ·exact zo2 ha hb _
 ·exact (zbd _).2.1
 ·exact (zbd _).2.1
theorem yoc {cs:List Col}(hcs: ∀ c∈cs,1<=c.k/\c.k<=4){n:Nod}{l:List Knd}{t:Knd}(hn:okN cs n)(hl: ∀ a∈l,inR a)(h:ybg cs n l=some t):inR t:=by
 by_cases h1:n.op=1
 ·unfold ybg at h
  rw [if_pos h1] at h
  split at h
  ·cases h
  ·rename_i h2
   cases h
   obtain ⟨j,c,e,hc,_⟩:=zc3 (p:=yd1 n.nm) (l:=cs) (show 0<=yd8 (yd1 n.nm) cs by have: ¬ yao cs n.nm<0:=h2;unfold yao at this;omega)
   have e:yao cs n.nm=j:=e
   have e2:yb4 cs n.nm=c:=by
    unfold yb4
    rw [e,Int.toNat_natCast,List.getD_eq_getElem?_getD,hc];rfl
   rw [e2]
   have:=hcs c (qP hc)
   exact ⟨by show 0<=c.k;omega,this.2⟩
 ·obtain ⟨_,rfl⟩:=zeq h1 h
  exact yod hn hl
theorem zkw {cs:List Col}(hcs: ∀ c∈cs,1<=c.k/\c.k<=4): ∀ {p:List Nod} {ts ts':List Knd} (_: ∀ n∈p,okN cs n) (_: ∀ a∈ts,inR a) (_:yb5 cs p ts=some ts'),∀ a∈ts',inR a
 | [],ts,ts',_,h,e=>by cases e;exact h
 |n::p,ts,ts',hn,h,e=>by
  rw [yb5] at e
  cases hq:yeo cs ts n with
  |none=>rw [hq] at e;cases e
  |some t1=>
   rw [hq] at e
   refine zkw hcs (p:=p) (fun x hx=>hn x (qW _ hx)) ?_ e
   unfold yeo at hq
   split at hq
   ·cases hq
   ·obtain ⟨k,hk,rfl⟩:=Option.map_eq_some_iff.1 hq
    intro a ha
    rcases List.mem_append.1 ha with ha|ha
    ·exact h a (List.mem_of_mem_take ha)
    ·rw [List.mem_singleton] at ha
     subst ha
     exact yoc hcs (hn n (List.mem_cons_self ..)) (fun b hb=>h b (List.mem_of_mem_drop hb)) hk
theorem zd8 {a:Knd}{k:Int}(h:yaf a k=true):a.k=k∨a.k=0:=by
 unfold yaf at h
 simpa using h
theorem ynm {cs:List Col}{op:Int}{l:List Knd}{t:Knd}(h2:2<=op)(h19:op<=19)(hl:l.length=arN op)(hr: ∀ a∈l,inR a)(ht:ybg cs (nd0 op 0) l=some t):c35 op l=true/\ybg [] (nd0 op 0) l=some t:=by
 have e0:ybg [] (nd0 op 0) l=some t:=by
  have h1:(nd0 op 0).op≠1:=by show op≠1;omega
  unfold ybg at ht ⊢
  rw [if_neg h1] at ht ⊢
  exact ht
 refine ⟨?_,e0⟩
 have hop:op=2∨op=3∨op=4∨op=5∨op=6∨op=7∨op=8∨op=9∨op=10∨op=11∨op=12∨op=13∨op=14∨op=15∨op=16∨op=17∨op=18∨op=19:=by omega
 have one: ∀ {op:Int},l.length=1->op∈([2,3,16,19]:List Int)->c35 op l=true:=fun {op} h ho=>by
  match l,h with
  | [a],_=>exact znr Yhq ho (hr a qH)
 have two: ∀ {op:Int},l.length=2->(op∈([4,5,6,7,8,9,14,15]:List Int)∨op∈([10,11]:List Int)∨op∈([12,13,18]:List Int))->c35 op l=true:=fun {op} h ho=>by
  match l,h with
  | [a,b],_=>
   rcases ho with ho|ho|ho
   ·exact zeu Ya5 ho (hr a qH) (hr b qH)
   ·exact zeu Ya6 ho (hr a qH) (hr b qH)
   ·exact zeu Ya7 ho (hr a qH) (hr b qH)
 rcases hop with rfl|rfl|rfl|rfl|rfl|rfl|rfl|rfl|rfl|rfl|rfl|rfl|rfl|rfl|rfl|rfl|rfl|rfl
 ·exact one hl qH
 ·exact one hl qH
 ·exact two hl (.inl qH)
 ·exact two hl (.inl qH)
 ·exact two hl (.inl qH)
 ·exact two hl (.inl qH)
 ·exact two hl (.inl qH)
 ·exact two hl (.inl qH)
 ·exact two hl (.inr (.inl qH))
 ·exact two hl (.inr (.inl qH))
 ·exact two hl (.inr (.inr qH))
 ·exact two hl (.inr (.inr qH))
 ·exact two hl (.inl qH)
 ·exact two hl (.inl qH)
 ·exact one hl qH
 ·have hl:l.length=3:=hl
  match l,hl with
  | [a,b,c],_=>
   obtain ⟨hf,_⟩:=zeq (by show (17:Int)≠1;omega) ht
   obtain ⟨_,hf⟩:=ynk (show ((ydn b c).2&&yaf a 1)=true from hf)
   have hb:=hr b qH
   have hc:=hr c qH
   rcases zd8 hf with h|h
   ·exact zht ylp (by obtain ⟨k,nl⟩:=a;simp only at h;subst h;cases nl<;>simp) hb hc
   ·exact zht ylo (by obtain ⟨k,nl⟩:=a;simp only at h;subst h;cases nl<;>simp) hb hc
 ·exact two hl (.inr (.inr qH))
 ·exact one hl qH
theorem yy2 {cs:List Col}{w:World}{cA zA sA:Option Addr}{cN cC zN zC m sC:Nat}(h:cs∈csE)(hcs: ∀ c∈cs,1<=c.k/\c.k<=4)(hr:rCol w cA cN cs)(hc:cN<=cC)(hm:cC<=maxLen)(hz:rZns w zA zN){x:Nod}(hx:okN cs x){l:List Knd}{t:Knd}(hl:l.length=arN x.op)(hlr: ∀ a∈l,inR a)(ht:ybg cs x l=some t)(hs:rKnd w sA m l)(hmc:m<=sC)(hms:sC<=maxLen):
 Calls Tryz.prog 35 #[.agg #[.int .i64 x.op, .int .i64 x.vk, .int .i64 x.vm, .string x.vs, .string x.nm, .int .i64 x.ar], .slice sA m sC, .slice cA cN cC, .slice zA zN zC] w fun e w'=>e= .returned (.tuple #[.agg #[.int .i64 t.k, .bool t.nl], .int .i64 0])/\Below w.heap.size w w':=by
 have hml:=hs.len
 by_cases h1:x.op=1
 ·have hl0:l= []:=List.eq_nil_of_length_eq_zero (by rw [hl,h1];rfl)
  subst hl0
  exact Yhl h hr hc hm hx h1 ht _ _
 obtain ⟨op,vk,vm,vs,nm,ar⟩:=x
 have ear:=hx.ar
 have hlo:=hx.lo
 have hhi:=hx.hi
 simp only at ear hlo hhi h1 hl
 subst ear
 by_cases h0:op=0
 ·subst h0
  have e4:=(hx.cst rfl).1
  simp only at e4
  subst e4
  obtain ⟨_,rfl⟩:=zeq (by show (0:Int)≠1;omega) ht
  exact Yhk vk vm vs _ _ _ w
 obtain ⟨e1,e2,e3⟩:=hx.zero h0
 simp only at e1 e2 e3
 subst e1;subst e2;subst e3
 by_cases h20:op=20
 ·subst h20
  have hl:l.length=1:=hl
  match l,hl with
  | [a],_=>
   obtain ⟨hf,rfl⟩:=zeq (by show (20:Int)≠1;omega) ht
   have hf:=zd8 (show yaf a 4=true from hf)
   obtain ⟨y,hy,e⟩:=hx.day rfl
   simp only at e
   subst e
   have hm1:m=1:=hml.symm
   subst hm1
   obtain ⟨b,off,rfl,_⟩:=hs.opn qF
   have hk:=yy1 zA zN zC y b off sC a (.slice cA cN cC) w hz hy qF hs hmc
   have:(ylr ⟨20,0,0,⟨#[]⟩,y.1,0⟩ [a]).1=⟨2,a.nl⟩:=by
    show (⟨2,a.nl || false⟩:Knd)=_
    rw [Bool.or_false]
   rw [this]
   exact hk
 have e4:=hx.bare h0 h1 h20
 simp only at e4
 subst e4
 obtain ⟨k1,k2⟩:=ynm (cs:=cs) qF qF hl hlr (show ybg cs (nd0 op 0) l=some t from ht)
 have hpos:0<l.length:=by
  rw [hl]
  unfold arN
  rw [if_neg qF]
  split<;>(try split)<;>omega
 obtain ⟨b,off,rfl,_⟩:=hs.opn qF
 have hml:l.length=m:=hml
 subst hml
 exact yre k1 k2 hs hpos hmc hms _ _
theorem zgs {cs:List Col}{ts s2:List Knd}{n:Nod}(h:yeo cs ts n=some s2):arN n.op<=ts.length/\ ∃ t,ybg cs n (ts.drop (ts.length - arN n.op))=some t/\s2=ts.take (ts.length - arN n.op)++ [t]:=by
 unfold yeo at h
 split at h
 ·cases h
 ·rename_i hlt
  obtain ⟨k,hk,rfl⟩:=Option.map_eq_some_iff.1 h
  exact ⟨by omega,k,hk,rfl⟩
theorem zpu {e:TypeId}{w:World}{base n c:Nat}{A:Option Addr}{l:List Knd}(h:ownD (yf6 e) w base (.slice A n c) n l):c<=maxLen:=by
 obtain ⟨es,⟨h0,h1⟩,_⟩:=h
 rcases h1 with ⟨e,_⟩|⟨g,cap,cur,e,_,_,_,hm,_⟩
 ·injection e with _ _ e3;omega
 ·injection e with _ _ e3;omega
theorem Ycg {cs:List Col}{t:Knd}(A:Option Addr)(n c:Nat)(p:List Nod)(cA zA:Option Addr)(cN cC zN zC:Nat)(w:World)(h:rNod w A n p)(hn:n<=60)(hk: ∀ x∈p,okN cs x)(hb:ycx cs p t)(hcs: ∀ c∈cs,c.nm∈knownN)(hE:cs∈csE)(hk2: ∀ c∈cs,1<=c.k/\c.k<=4)(hr:rCol w cA cN cs)(hcc:cN<=cC)(hcm:cC<=maxLen)(hz:rZns w zA zN):
 Calls Tryz.prog 11 #[.slice A n c, .slice cA cN cC, .slice zA zN zC] w fun e w'=>e= .returned (.tuple #[.int .i64 t.k, .bool t.nl, .int .i64 0])/\Below w.heap.size w w':=by
 obtain ⟨iK,PK⟩:=pK84
 have H:=qL h
 have HL:=qL h.len
 have HK:=qL hk
 have HB:=qL hb
 have HZ:=qL hz
 have HZ3:=hz.len
 have HR:=qL hr
 have H1:=qL (yqc A n c p w h hn hk hb hcs)
 have H2:=qL fun W (hb:Below w.heap.size w W)=>yqa (cs:=cs) (w:=W) hE (hr.later hb) hcc hcm
 have HE:=qL hE
 have HK2:=qL hk2
 clear h hk hb hcs hz hr hE hk2
 subst HZ3
 go_enter Tryz.func11,Tryz.ntmps11
 go_wp2_with fail
 refine H1.out.mono ?_
 rintro e w1 ⟨rfl,hb1⟩
 have HB1:=qL hb1
 clear hb1
 go_wp2_with fail
 refine (H2.out w1 HB1.out).mono ?_
 rintro e w2 ⟨rfl,hb2⟩
 have HB2:=qL (btr HB1.out hb2)
 clear hb2
 go_wp2
 go_loopw [11] (fun i wr=> ∃ k:Nat,k<=3/\i= .int .i64 k/\Below w.heap.size w wr) (fun i _=>3 - (intOf i).toNat)
 case atStart=>exact ⟨0,by omega,rfl,HB2.out⟩
 case round=>
  obtain ⟨k,hkn,rfl,hbw⟩:=hrel
  have HBW:=qL hbw
  by_cases hlt:k<3
  ·obtain ⟨zs,hzs,hd⟩:=HZ.out.later hbw
   obtain ⟨b1,o1,rfl,hc1⟩:=hzs.opn qF
   obtain ⟨z,hzk⟩:=zah (l:=zs) (k:=k) (by have:=hzs.len;omega)
   obtain ⟨x1,x2,x3⟩:=hc1 k z hzk
   obtain ⟨y,hy,e1,e2,e3⟩:=hd.get hzk
   obtain ⟨q1,q2,q3,q4⟩:=zfr y (qP hy)
   have HV:=qL (yqb z y.2.2 wr e3 q1 (by rw [<-e3.len];exact q2) (by rw [e2];exact q3) (by rw [e2];exact q4))
   clear hzs hd hc1 hzk hy e1 e2 e3 q1 q2 q3 q4 hbw
   go_wp2_with fail
   refine HV.out.mono ?_
   rintro e w5 ⟨rfl,hb5⟩
   have HB5:=qL (btr HBW.out hb5)
   clear hb5
   go_wp2
   go_roundw
   case rel=>exact ⟨k+1,by omega,by go_num,HB5.out⟩
   case measure=>simp [intOf];omega
  ·obtain rfl:k=3:=by omega
   go_wp2
   go_loopw [13,14] (fun v i wx=> ∃ (k:Nat) (ts:List Knd),k<=n/\i= .int .i64 k/\Below w.heap.size w wx/\Hid (yb5 cs (p.take k) []=some ts)/\Hid (ownD (yf6 84) wx w.heap.size v ts.length ts)) (fun _ i _=>n - (intOf i).toNat)
   case atStart=>exact ⟨0,[],by omega,rfl,hbw,qL rfl,qL (ownD.nil _ _)⟩
   case round=>
    obtain ⟨k,ts,hkn,rfl,hbx,HT,HO⟩:=hrel
    obtain ⟨wx,rfl⟩: ∃ wx,wx=wr:=⟨_,rfl⟩
    have HBX:=qL hbx
    obtain ⟨vA,vC,hv13,hvc,hrd,_⟩:=HO.out.rd
    subst hv13
    have htl:ts.length<=k:=by
     have:=zdu HT.out
     rw [List.length_take] at this
     simp at this;omega
    by_cases hlt:k<n
    ·obtain ⟨b1,o1,rfl,hc1⟩:=H.out.opn qF
     obtain ⟨x,hx⟩:=zah (l:=p) (k:=k) (by have:=HL.out;omega)
     obtain ⟨x1,x2,x3,x4,x5,x6⟩:=hc1 k x hx
     obtain ⟨s1,s2,f1,f2,f3⟩:=zdk (HB.out []) hx
     rw [HT.out] at f1
     cases f1
     obtain ⟨ha,tk,hnt,hs2⟩:=zgs f2
     subst hs2
     have HF3:=qL f3
     have HX:=HK.out x (qP hx)
     have hinr:=zkw HK2.out (fun n hn=>HK.out n (List.mem_of_mem_take hn)) (fun a ha=>by cases ha) HT.out
     have z1:=qM hbx x1
     have z2:=qM hbx x2
     have z3:=qM hbx x3
     have z4:=qM hbx x4
     have z5:=qM hbx x5
     have z6:=qM hbx x6
     have HA:=qL fun W=>zny x HX.lo HX.hi W
     obtain ⟨a,hae⟩: ∃ a,a=arN x.op:=⟨_,rfl⟩
     obtain ⟨rs,hrs⟩: ∃ rs,rs=ts.length - a:=⟨_,rfl⟩
     have e1:((ts.length:Int) - (a:Int))=(rs:Int):=by omega
     have e2:ts.length - rs=a:=by omega
     have hrl:rs<=ts.length:=by omega
     have hrc:rs<=vC:=by omega
     rw [<-hae] at ha hnt HF3 HA
     rw [<-hrs] at hnt HF3
     have HAE:=qL hae
     have HN35:Hid (∀ W,Below w.heap.size w W-> ∀ sA sC,rKnd W sA a (ts.drop rs)->a<=sC->sC<=maxLen->Calls Tryz.prog 35 #[.agg #[.int .i64 x.op, .int .i64 x.vk, .int .i64 x.vm, .string x.vs, .string x.nm, .int .i64 x.ar], .slice sA a sC, .slice cA cN cC, .slice zA 3 zC] W fun e w'=>e= .returned (.tuple #[.agg #[.int .i64 tk.k, .bool tk.nl], .int .i64 0])/\Below W.heap.size W w'):=qL fun W hb sA sC hs h1 h2=>
      yy2 HE.out HK2.out (HR.out.later hb) hcc hcm (HZ.out.later hb) HX (by rw [List.length_drop,<-hae];omega) (fun b hb=>hinr b (List.mem_of_mem_drop hb)) hnt hs h1 h2
     have HRS:Hid (rs=ts.length - a):=qL hrs
     have HVM:Hid (vC<=maxLen):=qL (zpu HO.out)
     have HSL:Hid (∀ W,Below wx.heap.size wx W->rKnd W (if vC=rs then vA else vA.map (·.add (rs*2))) a (ts.drop rs)):=qL fun W hb=>by
      have hr:=rKnd.later (zgm.1 hrd) hb
      rw [<-e2]
      by_cases ha0:rs=ts.length
      ·rw [ha0,Nat.sub_self,List.drop_eq_nil_of_le (qV _)]
       exact rKnd.nil _ _
      ·rw [if_neg qF]
       obtain ⟨b,off,e,_⟩:=hr.opn qF
       rw [e,Option.map_some,zaw]
       exact zgm.1 ((zgm (e:=84)).2 hr|>.drop rs qF e)
     clear hc1 hx x1 x2 x3 x4 x5 x6 f2 f3 hbx hnt hinr HX hae hrs
     go_wp2_with fail
     refine (HA.out _).mono ?_
     rintro e w5 ⟨rfl,hb5⟩
     have z1:=qM hb5 z1
     have z2:=qM hb5 z2
     have z3:=qM hb5 z3
     have z4:=qM hb5 z4
     have z5:=qM hb5 z5
     have z6:=qM hb5 z6
     have HB5:=qL hb5
     clear hb5
     have HNN:=qL fun W (hb:Below wx.heap.size wx W)=>HN35.out W (btr HBX.out hb) _ (vC - rs) (HSL.out W hb) qF (qR (Nat.sub_le _ _) HVM.out)
     have y1:=qM (zae w5 (.cells #[.int .i64 0, .bool false] 84)) z1
     have y2:=qM (zae w5 (.cells #[.int .i64 0, .bool false] 84)) z2
     have y3:=qM (zae w5 (.cells #[.int .i64 0, .bool false] 84)) z3
     have y4:=qM (zae w5 (.cells #[.int .i64 0, .bool false] 84)) z4
     have y5:=qM (zae w5 (.cells #[.int .i64 0, .bool false] 84)) z5
     have y6:=qM (zae w5 (.cells #[.int .i64 0, .bool false] 84)) z6
     go_upto_region 18 with fail
     go_cut [16,17] from 42 to 78 (fun pv qv wc=>qv= .int .i64 0/\Below wx.heap.size wx wc/\ ∃ B,wx.heap.size<=B/\pv= .pointer (some ⟨B,0,none⟩)/\wc.cell? ⟨B,0,none⟩=some (.int .i64 tk.k)/\wc.cell? ⟨B,1,none⟩=some (.bool tk.nl))
     case first=>
      by_cases hck:vC=rs
      ·subst hck
       rw [if_pos rfl,Nat.sub_self] at HNN
       clear HSL HRS e1
       go_region_with (go_at_call 35;refine (HNN.out _ ?_).mono ?_;(with_reducible first |exact HB5.out|exact HB5.out.drew|exact HB5.out.drew.drew|exact HB5.out.alloc HB5.out.size _|exact (HB5.out.alloc HB5.out.size _).drew|exact HB5.out.drew.alloc HB5.out.drew.size _);rintro e w6 ⟨rfl,hb6⟩;try (have jf: ∀ o,w6.frozen? ⟨w5.heap.size,o,none⟩=false:=(fun o=>(Below.frozen hb6 (p:=⟨w5.heap.size,o,none⟩) qH).trans (show (w5.alloc (.cells #[.int .i64 0, .bool false] 84)).frozen? ⟨w5.heap.size,o,none⟩=false by (repeat (first |(refine zaa ?_ rfl;(simp;done))|(refine zad ?_;(simp;done))|(refine zac ?_ ?_;(focus first |(simp;done)|(simp;omega)))|(refine zab ?_ ?_;(focus first |(simp;done)|(simp;omega)))))));have ja:w6.cell? ⟨w5.heap.size,0,none⟩=some (.int .i64 0):=qM hb6 (show (w5.alloc (.cells #[.int .i64 0, .bool false] 84)).cell? ⟨w5.heap.size,0,none⟩=some (.int .i64 0) by (repeat (first |(refine zaa ?_ rfl;(simp;done))|(refine zad ?_;(simp;done))|(refine zac ?_ ?_;(focus first |(simp;done)|(simp;omega)))|(refine zab ?_ ?_;(focus first |(simp;done)|(simp;omega))))));have jb:w6.cell? ⟨w5.heap.size,1,none⟩=some (.bool false):=qM hb6 (show (w5.alloc (.cells #[.int .i64 0, .bool false] 84)).cell? ⟨w5.heap.size,1,none⟩=some (.bool false) by (repeat (first |(refine zaa ?_ rfl;(simp;done))|(refine zad ?_;(simp;done))|(refine zac ?_ ?_;(focus first |(simp;done)|(simp;omega)))|(refine zab ?_ ?_;(focus first |(simp;done)|(simp;omega))))));have js:w5.heap.size<w6.heap.size:=qQ qH hb6.size))
       all_goals (go_wp2_with fail;go_meet)
       ·exact ⟨rfl,((btr HB5.out (zap hb6)).alloc (btr HB5.out (zap hb6)).size _),_,(btr HB5.out (zap hb6)).size,rfl,by simp,by simp⟩
       all_goals
        have HBA:=btr (HB5.out.alloc HB5.out.size _) (zap hb6)
        refine ⟨rfl,(HBA.setCell (p:=⟨_,0,none⟩) HB5.out.size _).setCell (p:=⟨_,1,none⟩) HB5.out.size _,_,HB5.out.size,rfl,?_,?_⟩
       all_goals simp [go_sem,ja,jb]
      ·rw [if_neg hck] at HNN
       go_region_with (go_at_call 35;refine (HNN.out _ ?_).mono ?_;(with_reducible first |exact HB5.out|exact HB5.out.drew|exact HB5.out.drew.drew|exact HB5.out.alloc HB5.out.size _|exact (HB5.out.alloc HB5.out.size _).drew|exact HB5.out.drew.alloc HB5.out.drew.size _);rintro e w6 ⟨rfl,hb6⟩;try (have jf: ∀ o,w6.frozen? ⟨w5.heap.size,o,none⟩=false:=(fun o=>(Below.frozen hb6 (p:=⟨w5.heap.size,o,none⟩) qH).trans (show (w5.alloc (.cells #[.int .i64 0, .bool false] 84)).frozen? ⟨w5.heap.size,o,none⟩=false by (repeat (first |(refine zaa ?_ rfl;(simp;done))|(refine zad ?_;(simp;done))|(refine zac ?_ ?_;(focus first |(simp;done)|(simp;omega)))|(refine zab ?_ ?_;(focus first |(simp;done)|(simp;omega)))))));have ja:w6.cell? ⟨w5.heap.size,0,none⟩=some (.int .i64 0):=qM hb6 (show (w5.alloc (.cells #[.int .i64 0, .bool false] 84)).cell? ⟨w5.heap.size,0,none⟩=some (.int .i64 0) by (repeat (first |(refine zaa ?_ rfl;(simp;done))|(refine zad ?_;(simp;done))|(refine zac ?_ ?_;(focus first |(simp;done)|(simp;omega)))|(refine zab ?_ ?_;(focus first |(simp;done)|(simp;omega))))));have jb:w6.cell? ⟨w5.heap.size,1,none⟩=some (.bool false):=qM hb6 (show (w5.alloc (.cells #[.int .i64 0, .bool false] 84)).cell? ⟨w5.heap.size,1,none⟩=some (.bool false) by (repeat (first |(refine zaa ?_ rfl;(simp;done))|(refine zad ?_;(simp;done))|(refine zac ?_ ?_;(focus first |(simp;done)|(simp;omega)))|(refine zab ?_ ?_;(focus first |(simp;done)|(simp;omega))))));have js:w5.heap.size<w6.heap.size:=qQ qH hb6.size))
       all_goals (go_wp2_with fail;go_meet)
       ·exact ⟨rfl,((btr HB5.out (zap hb6)).alloc (btr HB5.out (zap hb6)).size _),_,(btr HB5.out (zap hb6)).size,rfl,by simp,by simp⟩
       all_goals
        have HBA:=btr (HB5.out.alloc HB5.out.size _) (zap hb6)
        refine ⟨rfl,(HBA.setCell (p:=⟨_,0,none⟩) HB5.out.size _).setCell (p:=⟨_,1,none⟩) HB5.out.size _,_,HB5.out.size,rfl,?_,?_⟩
       all_goals simp [go_sem,ja,jb]
     case rest=>
      obtain ⟨rfl,hbc,B,hB,rfl,c0,c1⟩:=hcut
      have HBC:=qL hbc
      obtain ⟨A2,C2,e3,_,hrs2,_⟩:=(HO.out.short hrl).rd
      cases e3
      have HR2:Hid (∀ W,Below wx.heap.size wx W->rKnd W vA rs (ts.take rs)):=qL fun W hb=>rKnd.later (zgm.1 hrs2) hb
      clear hrs2 hbc
      go_wp2_with fail
      have hc5: ∀ (X:World) (b:Nat),X.cell? ⟨b,0,none⟩=some (.int .i64 tk.k)->X.cell? ⟨b,1,none⟩=some (.bool tk.nl)-> ∀ j u,(yas tk)[j]?=some u->X.cell? ((⟨b,0,none⟩:Addr).add j)=some u:=fun X b h0 h1 j u hj=>by
       rcases j with _|_|j
       ·simp [yas] at hj;subst hj;exact h0
       ·simp [yas] at hj;subst hj;exact h1
       ·simp [yas] at hj
      have HC5:=qL hc5
      clear hc5
      have hrs6:rs<1000000:=by omega
      go_region_law (refine zqg _ qJ _ _ qJ PK (HR2.out _ (HBC.out.drew.alloc HBC.out.drew.size _)) ⟨_,0,none⟩ 1 tk qJ qJ (HC5.out _ _ qH qH) hrs6 ?_;intro v' w' hown hgrow)
      have HOF:Hid (ownD (yf6 84) w' w.heap.size v' (ts.take rs++ [tk]).length (ts.take rs++ [tk])):=qL (za2 (hown.mono (qR (btr HBX.out HBC.out).size qH)) rfl)
      have HBF:Hid (Below w.heap.size w w'):=qL ((((btr HBX.out HBC.out).alloc (btr HBX.out HBC.out).size _).drew).trans (za9 hgrow (qR (btr HBX.out HBC.out).size qH) fun k e=>by cases e))
      clear hown hgrow
      go_wp2
      go_roundw
      case rel=>(repeat apply Exists.intro);exact ⟨⟨k+1,_,by omega,by go_num,HBF.out,HF3,HOF⟩,rfl⟩
      case measure=>simp [intOf];omega
    ·obtain rfl:k=n:=by omega
     have hrun:=HB.out []
     rw [List.take_of_length_le (by have:=HL.out;omega)] at HT
     have hT:=HT.out
     rw [hrun] at hT
     injection hT with hT
     subst hT
     obtain ⟨b,off,e4,hc4⟩:=(rKnd.later (zgm.1 hrd) (Below.refl _ _)).opn qH
     cases e4
     obtain ⟨c0,c1⟩:=hc4 0 t rfl
     simp only [Nat.zero_mul,Nat.add_zero] at c0 c1
     clear hc4 hrd hrun
     go_wp2_with fail
     go_region
     go_wp2_with fail
     exact bodyPost_ret (v:= .tuple #[.int .i64 t.k, .bool t.nl, .int .i64 0]) (by simp [results,Tryz.results11,go_sem]) rfl ⟨rfl,HBX.out.drew⟩
end
end Go.Proofs.YthcalfeoejdcgaaGreatDoor
