import Derived.Test.YthcalfeoejdcgaaGreatDoorK22
import Derived.Test.YthcalfeoejdcgaaGreatDoorK23
import Derived.Test.YthcalfeoejdcgaaGreatDoorK24
import Derived.Test.YthcalfeoejdcgaaGreatDoorK25
import Derived.Test.YthcalfeoejdcgaaGreatDoorK26
import Derived.Test.YthcalfeoejdcgaaGreatDoorK27
import Derived.KernelRfl
import Derived.Test.YthcalfeoejdcgaaGreatDoorK12
import Derived.StillTailTactics
import Derived.Deep.RegionLaw
import Derived.Deep.CutRange
import Derived.Deep.CutBlock
namespace Go.Proofs.YthcalfeoejdcgaaGreatDoor
set_option linter.unusedSimpArgs false
set_option linter.unusedVariables false
set_option maxRecDepth 100000
set_option maxHeartbeats 20000000
section
open Go.BigFrame Go.RowKit
def nd20 (nm:ByteArray):Value:= .agg ⟨[.int .i64 20, .int .i64 0, .int .i64 0, .string ⟨⟨[]⟩⟩, .string nm, .int .i64 0]⟩
noncomputable def c20 (nm:ByteArray)(a:Knd):Bool:=yhg ((xR 60).call 274 [nd20 nm,yiu 1] (sKn 282 [a])) (some ⟨2,a.nl⟩)
theorem Ydt :(zoneL.all fun y=>([⟨0,false⟩,⟨0,true⟩,⟨4,false⟩,⟨4,true⟩]:List Knd).all (c20 y.1))=true:=by kernel_rfl
def ynh :Ev:=fun _ _ _=>True
theorem yk0 (w:World):Sim ynh (fun i=>i<64) (fun i=>ya8 i 0 0 0) s64 w:=by
 have hg: ∀ i o,s64.heap.get i=some o->False:=fun i o h=>by
  have h:(Tr.leaf:Tr AObj).get i=some o:=h
  rw [Tr.get_leaf] at h;cases h
 exact ⟨fun i o h=>(hg i o h).elim,fun i h=>h,fun i o h=>(hg i o h).elim,fun i o h=>(hg i o h).elim,fun i j o o' h=>(hg i o h).elim,fun g h=>h,fun g _=>⟨rfl,rfl⟩,fun i k ob h=>by cases h⟩
def nd00 (vk:Int):Value:= .agg ⟨[.int .i64 0, .int .i64 vk, .chan (some 10240), .chan (some 11264), .chan (some 12288), .chan (some 13312)]⟩
noncomputable def c00 (vk:Int):Bool:=yhg ((xR 60).call 274 [nd00 vk, .slice (some ⟨0,0,some 0⟩) 0 0] s64) (some ⟨vk,decide (vk=0)⟩)
theorem Ydr :([0,1,2,3,4]:List Int).all c00=true:=by kernel_rfl
theorem yox (vk:Int){a b c d:Value}(ha:a.oneCell'=true)(hb:b.oneCell'=true)(hc:c.oneCell'=true)(hd:d.oneCell'=true):Rv ynh (fun i=>i<64) (fun i=>ya8 i 0 0 0) (nd00 vk) (.agg #[.int .i64 0, .int .i64 vk,a,b,c,d]):=
 .agg _ _ (.cons _ _ _ _ (.flat _ rfl) (.cons _ _ _ _ (.flat _ rfl) (.cons _ _ _ _ (.opq _ _ (by show (10:Nat)<64;decide) ha trivial) (.cons _ _ _ _ (.opq _ _ (by show (11:Nat)<64;decide) hb trivial) (.cons _ _ _ _ (.opq _ _ (by show (12:Nat)<64;decide) hc trivial) (.cons _ _ _ _ (.opq _ _ (by show (13:Nat)<64;decide) hd trivial) .nil))))))
theorem yoy {D:Nat->Prop}{ρ:Nat->Pl}(nm:ByteArray):Rv ye4 D ρ (nd20 nm) (.agg #[.int .i64 20, .int .i64 0, .int .i64 0, .string ⟨#[]⟩, .string nm, .int .i64 0]):=
 .agg _ _ (.cons _ _ _ _ (.flat _ rfl) (.cons _ _ _ _ (.flat _ rfl) (.cons _ _ _ _ (.flat _ rfl) (.cons _ _ _ _ (.flat _ rfl) (.cons _ _ _ _ (.flat _ rfl) (.cons _ _ _ _ (.flat _ rfl) .nil))))))
theorem zml {x:Option (Value × ASt)}{k:Knd}(h:yhg x (some k)=true): ∃ s1,x=some (.tuple ⟨[.agg ⟨[.int .i64 k.k, .bool k.nl]⟩, .bool true]⟩,s1):=by
 unfold yhg at h
 simp only at h
 split at h
 ·rename_i a b' s1
  rw [Bool.and_eq_true] at h
  have e1:=zed h.1
  have e2:=zl4 h.2
  exact ⟨s1,by rw [e1,e2]⟩
 ·cases h
theorem ymw {E:Ev}{D:Nat->Prop}{ρ:Nat->Pl}{k:Int}{b:Bool}{v':Value}(h:Rv E D ρ (.tuple ⟨[.agg ⟨[.int .i64 k, .bool b]⟩, .bool true]⟩) v'):v'= .tuple #[.agg #[.int .i64 k, .bool b], .bool true]:=by
 obtain ⟨m,rfl,h4⟩:=zjj h
 obtain ⟨x1,m1,rfl,g1,h5⟩:=zag h4
 obtain ⟨x2,m2,rfl,g2,h6⟩:=zag h5
 obtain rfl:=zay h6
 obtain ⟨m3,rfl,h7⟩:=zdl g1
 obtain ⟨y1,m4,rfl,k1,h8⟩:=zag h7
 obtain ⟨y2,m5,rfl,k2,h9⟩:=zag h8
 obtain rfl:=zay h9
 obtain rfl:=zat k1 rfl
 obtain rfl:=zat k2 rfl
 obtain rfl:=zat g2 rfl
 rfl
theorem znc {y:ByteArray × Int × List Shf}(hy:y∈zoneL){a:Knd}(ha:a.k=4∨a.k=0){w:World}{b off c:Nat}(hr:rKnd w (some ⟨b,off,none⟩) 1 [a])(hc:1<=c)(hm:c<=maxLen):
 Calls Tryz.prog 274 #[.agg #[.int .i64 20, .int .i64 0, .int .i64 0, .string ⟨#[]⟩, .string y.1, .int .i64 0], .slice (some ⟨b,off,none⟩) 1 c] w fun e w'=>e= .returned (.tuple #[.agg #[.int .i64 2, .bool a.nl], .bool true])/\Below w.heap.size w w':=by
 have h:=List.all_eq_true.1 (List.all_eq_true.1 Ydt y hy) a (by obtain ⟨k,nl⟩:=a;simp only at ha;rcases ha with rfl|rfl<;>cases nl<;>simp)
 obtain ⟨s1,hx⟩:=zml h
 obtain ⟨D,ρ,hs,hv⟩:=zp7 (e:=282) hr qF hc hm
 refine (zir ye4 60 274 _ _ _ _ hx D ρ w _ hs (.cons _ _ _ _ (yoy y.1) (.cons _ _ _ _ hv .nil))).mono ?_
 rintro e w' ⟨v',ρ',D',rfl,h1,h2,h3⟩
 rw [ymw h1]
 exact ⟨rfl,zb1 (yom 282 [a]) rfl h3⟩
theorem zn5 {vk:Int}(hk:0<=vk/\vk<=4){w:World}(A:Option Addr)(c:Nat)(m:Int)(s nm:ByteArray)(ar:Int):
 Calls Tryz.prog 274 #[.agg #[.int .i64 0, .int .i64 vk, .int .i64 m, .string s, .string nm, .int .i64 ar], .slice A 0 c] w fun e w'=>e= .returned (.tuple #[.agg #[.int .i64 vk, .bool (vk==0)], .bool true])/\Below w.heap.size w w':=by
 have h:=List.all_eq_true.1 Ydr vk (by
  have:vk=0∨vk=1∨vk=2∨vk=3∨vk=4:=by omega
  rcases this with rfl|rfl|rfl|rfl|rfl<;>simp)
 obtain ⟨s1,hx⟩:=zml h
 refine (zir ynh 60 274 _ _ _ _ hx _ _ w _ (yk0 w) (.cons _ _ _ _ (yox vk rfl rfl rfl rfl) (.cons _ _ _ _ (.empty A c) .nil))).mono ?_
 rintro e w' ⟨v',ρ',D',rfl,h1,h2,h3⟩
 rw [ymw h1]
 refine ⟨?_,zb1 (fun b o h=>by
  have h:(Tr.leaf:Tr AObj).get b=some o:=h
  rw [Tr.get_leaf] at h;cases h) rfl h3⟩
 have:(vk==0)=decide (vk=0):=by simp [BEq.beq]
 rw [this]
theorem yjc {cs:List Col}{op:Int}{l:List Knd}{t:Knd}(h2:2<=op)(h19:op<=19)(hl:l.length=arN op)(hr: ∀ a∈l,inR a)(ht:ybg cs (nd0 op 0) l=some t):yhy op l=true/\ybg [] (nd0 op 0) l=some t:=by
 have e0:ybg [] (nd0 op 0) l=some t:=by
  have h1:(nd0 op 0).op≠1:=by show op≠1;omega
  unfold ybg at ht ⊢
  rw [if_neg h1] at ht ⊢
  exact ht
 refine ⟨?_,e0⟩
 have hop:op=2∨op=3∨op=4∨op=5∨op=6∨op=7∨op=8∨op=9∨op=10∨op=11∨op=12∨op=13∨op=14∨op=15∨op=16∨op=17∨op=18∨op=19:=by omega
 have one: ∀ {op:Int},l.length=1->op∈([2,3,16,19,20]:List Int)->yhy op l=true:=fun {op} h ho=>by
  match l,h with
  | [a],_=>exact znr yy6 ho (hr a qH)
 have two: ∀ {op:Int},l.length=2->(op∈([4,5,6,7,8,9,14,15]:List Int)∨op∈([10,11]:List Int)∨op∈([12,13,18]:List Int))->yhy op l=true:=fun {op} h ho=>by
  match l,h with
  | [a,b],_=>
   rcases ho with ho|ho|ho
   ·exact zeu yp4 ho (hr a qH) (hr b qH)
   ·exact zeu yp5 ho (hr a qH) (hr b qH)
   ·exact zeu yp6 ho (hr a qH) (hr b qH)
 rcases hop with rfl|rfl|rfl|rfl|rfl|rfl|rfl|rfl|rfl|rfl|rfl|rfl|rfl|rfl|rfl|rfl|rfl|rfl
 ·exact one hl qH
 ·exact one hl qH
 ·exact two hl (.inl qH)
 ·exact two hl (.inl qH)
 ·exact two hl (.inl qH)
 ·exact two hl (.inl qH)
 ·exact two hl (.inl qH)
 ·exact two hl (.inl qH)
 ·exact two hl (.inr (.inl qH))
 ·exact two hl (.inr (.inl qH))
 ·exact two hl (.inr (.inr qH))
 ·exact two hl (.inr (.inr qH))
 ·exact two hl (.inl qH)
 ·exact two hl (.inl qH)
 ·exact one hl qH
 ·have hl:l.length=3:=hl
  match l,hl with
  | [a,b,c],_=>
   obtain ⟨hf,_⟩:=zeq (by show (17:Int)≠1;omega) ht
   obtain ⟨_,hf⟩:=ynk (show ((ydn b c).2&&yaf a 1)=true from hf)
   have hb:=hr b qH
   have hc:=hr c qH
   rcases zd8 hf with h|h
   ·exact zht zqm (by obtain ⟨k,nl⟩:=a;simp only at h;subst h;cases nl<;>simp) hb hc
   ·exact zht zql (by obtain ⟨k,nl⟩:=a;simp only at h;subst h;cases nl<;>simp) hb hc
 ·exact two hl (.inr (.inr qH))
 ·exact one hl qH
theorem yo0 {cs:List Col}{w:World}{sA:Option Addr}{m sC:Nat}{x:Nod}(hx:okN cs x)(h1:x.op≠1){l:List Knd}{t:Knd}(hl:l.length=arN x.op)(hlr: ∀ a∈l,inR a)(ht:ybg cs x l=some t)(hs:rKnd w sA m l)(hmc:m<=sC)(hms:sC<=maxLen):
 Calls Tryz.prog 274 #[.agg #[.int .i64 x.op, .int .i64 x.vk, .int .i64 x.vm, .string x.vs, .string x.nm, .int .i64 x.ar], .slice sA m sC] w fun e w'=>e= .returned (.tuple #[.agg #[.int .i64 t.k, .bool t.nl], .bool true])/\Below w.heap.size w w':=by
 have hml:=hs.len
 obtain ⟨op,vk,vm,vs,nm,ar⟩:=x
 have ear:=hx.ar
 have hlo:=hx.lo
 have hhi:=hx.hi
 simp only at ear hlo hhi h1 hl
 subst ear
 by_cases h0:op=0
 ·subst h0
  have hv:=(hx.cst rfl).2
  simp only at hv
  obtain ⟨_,rfl⟩:=zeq (by show (0:Int)≠1;omega) ht
  have hm0:m=0:=by rw [<-hml,hl];rfl
  subst hm0
  have hk:0<=vk/\vk<=4:=by
   rcases za8 hv with e|⟨m,e,_⟩|⟨m,e,_⟩|⟨s,e,_⟩|⟨m,e,_⟩<;>(injection e with e1 _ _;omega)
  exact zn5 hk sA sC _ _ _ _
 obtain ⟨e1,e2,e3⟩:=hx.zero h0
 simp only at e1 e2 e3
 subst e1;subst e2;subst e3
 by_cases h20:op=20
 ·subst h20
  have hl:l.length=1:=hl
  match l,hl with
  | [a],_=>
   obtain ⟨hf,rfl⟩:=zeq (by show (20:Int)≠1;omega) ht
   have hf2:=zd8 (show yaf a 4=true from hf)
   clear hf
   have hm1:m=1:=hml.symm
   subst hm1
   obtain ⟨b,off,rfl,_⟩:=hs.opn qF
   obtain ⟨y,hy,e⟩:=hx.day rfl
   simp only at e
   subst e
   have hk:=znc hy hf2 hs hmc hms
   have:(ylr ⟨20,0,0,⟨#[]⟩,y.1,0⟩ [a]).1=⟨2,a.nl⟩:=by
    show (⟨2,a.nl || false⟩:Knd)=_
    rw [Bool.or_false]
   rw [this]
   exact hk
 have e4:=hx.bare h0 h1 h20
 simp only at e4
 subst e4
 obtain ⟨k1,k2⟩:=yjc (cs:=cs) qF qF hl hlr (show ybg cs (nd0 op 0) l=some t from ht)
 have hpos:0<l.length:=by
  rw [hl]
  unfold arN
  rw [if_neg qF]
  split<;>(try split)<;>omega
 obtain ⟨b,off,rfl,_⟩:=hs.opn qF
 have hml:l.length=m:=hml
 subst hml
 exact ynn k1 k2 hs hpos hmc hms
theorem yog :(Tryz.prog.info? 282).map (fun i=>(i.zero,i.size,i.bytes))=some (some (.agg #[.int .i64 0, .bool false]),2,16):=by kernel_rfl
theorem Yhs : ∃ i,KinP Tryz.prog (yf6 282) 280 i (.agg #[.int .i64 0, .bool false]) 16:=by
 obtain ⟨i0,hi,hz0,hz1,hz2⟩:=info_parts yog
 exact ⟨i0,⟨Tryz.underlying280,hi,hz0,hz1,hz2,rfl,by omega⟩⟩
theorem zoa {cs:List Col}{t:Knd}(A:Option Addr)(n c:Nat)(p:List Nod)(cA:Option Addr)(cN cC:Nat)(zA:Option Addr)(zN zC:Nat)(w:World)(hX:okX cs p t)(hn:rNod w A n p)(hc:rCol w cA cN cs)(hz:rZns w zA zN)(hT:Tbs w):
 Calls Tryz.prog 272 #[.slice A n c, .slice cA cN cC, .slice zA zN zC] w fun e w'=>e= .returned (.int .i64 0)/\Below w.heap.size w w':=by
 have H1:=qL (ym0 A n c p w hX hn hT)
 have H2:=qL fun W (hb:Below w.heap.size w W)=>ypn cA cN cC cs W (hc.later hb) hX.cols
 have HZ:=qL hz
 have HZ3:=hz.len
 clear hX hn hc hT hz
 subst HZ3
 go_enter Tryz.func272,Tryz.ntmps272
 go_wp2_with fail
 refine H1.out.mono ?_
 rintro e w1 ⟨rfl,hb1⟩
 have HB1:=qL hb1
 clear hb1
 go_wp2_with fail
 refine (H2.out w1 HB1.out).mono ?_
 rintro e w2 ⟨rfl,hb2⟩
 have HB2:=qL (btr HB1.out hb2)
 clear hb2
 go_wp2
 go_loopw [24] (fun i wr=> ∃ k:Nat,k<=3/\i= .int .i64 k/\Below w.heap.size w wr) (fun i _=>3 - (intOf i).toNat)
 case atStart=>exact ⟨0,by omega,rfl,HB2.out⟩
 case round=>
  obtain ⟨k,hkn,rfl,hbw⟩:=hrel
  have HBW:=qL hbw
  by_cases hlt:k<3
  ·obtain ⟨zs,hzs,hd⟩:=HZ.out.later hbw
   obtain ⟨b1,o1,rfl,hc1⟩:=hzs.opn qF
   obtain ⟨z,hzk⟩:=zah (l:=zs) (k:=k) (by have:=hzs.len;omega)
   obtain ⟨x1,x2,x3⟩:=hc1 k z hzk
   obtain ⟨y,hy,e1,e2,e3⟩:=hd.get hzk
   obtain ⟨q1,q2,q3,q4⟩:=zfr y (qP hy)
   have HV:=qL (Yi4 z y.2.2 (wr.alloc (.cells #[.string z.nm, .int .i64 z.off, .slice z.shA z.shN z.shC] 80)) (e3.later (zae _ _)) q1 (by rw [<-e3.len];exact q2) (by rw [e2];exact q3) (by rw [e2];exact q4))
   clear hzs hd hc1 hzk hy e1 e2 e3 q1 q2 q3 q4 hbw
   go_wp2_with fail
   refine HV.out.mono ?_
   rintro e w5 ⟨rfl,hb5⟩
   have HB5:=qL (btr HBW.out (btr (zae _ _) hb5))
   clear hb5
   go_wp2
   go_roundw
   case rel=>exact ⟨k+1,by omega,by go_num,HB5.out⟩
   case measure=>simp [intOf];omega
  ·obtain rfl:k=3:=by omega
   go_wp2
   go_ret
   exact ⟨zak rfl,HBW.out⟩
theorem Ych {cs:List Col}{t:Knd}(A:Option Addr)(n c:Nat)(p:List Nod)(cA:Option Addr)(cN cC:Nat)(zA:Option Addr)(zN zC:Nat)(w:World)(hX:okX cs p t)(hn:rNod w A n p)(hc:rCol w cA cN cs)(hcc:cN<=cC)(hz:rZns w zA zN)(hT:Tbs w):
 Calls Tryz.prog 242 #[.slice A n c, .slice cA cN cC, .slice zA zN zC] w fun e w'=>e= .returned (.tuple #[.int .i64 t.k, .bool t.nl, .int .i64 0])/\Below w.heap.size w w':=by
 obtain ⟨iK,PK⟩:=Yhs
 have H1:=qL (zoa A n c p cA cN cC zA zN zC w hX hn hc hz hT)
 have H:=qL hn
 have HL:=qL hn.len
 have HK:=qL hX.nod
 have HB:=qL hX.blk
 have HK2:=qL hX.cols.kinds
 have HR:=qL hc
 have HZ:=qL hz
 have HZN:Hid (zN<=100000):=qL (by have:=hz.len;omega)
 have hn60:n<=60:=by have:=hn.len;have:=hX.len;omega
 have hcn:cN<=12:=by have:=hc.len;have:=hX.cols.2.1;omega
 clear hX hn hc hz hT
 go_enter Tryz.func242,Tryz.ntmps242
 go_wp2_with fail
 refine H1.out.mono ?_
 rintro e w1 ⟨rfl,hb1⟩
 have HB1:=qL hb1
 clear hb1
 go_wp2
 go_loopw [10,28] (fun v i wx=> ∃ (k:Nat) (ts:List Knd),k<=n/\i= .int .i64 k/\Below w.heap.size w wx/\Hid (yb5 cs (p.take k) []=some ts)/\Hid (ownD (yf6 282) wx w.heap.size v ts.length ts)) (fun _ i _=>n - (intOf i).toNat)
 case atStart=>exact ⟨0,[],by omega,rfl,HB1.out,qL rfl,qL (ownD.nil _ _)⟩
 case round=>
  obtain ⟨k,ts,hkn,rfl,hbx,HT,HO⟩:=hrel
  obtain ⟨wx,rfl⟩: ∃ wx,wx=wr:=⟨_,rfl⟩
  have HBX:=qL hbx
  have HV0:Hid (∀ y,u10.ownBlock=some y->w.heap.size<=y):=qL fun y e=>(HO.out.lt y e).1
  obtain ⟨vA,vC,hv10,hvc,hrd,_⟩:=HO.out.rd
  subst hv10
  have htl:ts.length<=k:=by
   have:=zdu HT.out
   rw [List.length_take] at this
   simp at this;omega
  by_cases hlt:k<n
  ·obtain ⟨b1,o1,rfl,hc1⟩:=H.out.opn qF
   obtain ⟨x,hx⟩:=zah (l:=p) (k:=k) (by have:=HL.out;omega)
   obtain ⟨x1,x2,x3,x4,x5,x6⟩:=hc1 k x hx
   obtain ⟨s1,s2,f1,f2,f3⟩:=zdk (HB.out []) hx
   rw [HT.out] at f1
   cases f1
   obtain ⟨ha,tk,hnt,hs2⟩:=zgs f2
   subst hs2
   have HX:=HK.out x (qP hx)
   have HXX:=qL HX
   have hinr:=zkw HK2.out (fun n hn=>HK.out n (List.mem_of_mem_take hn)) (fun a ha=>by cases ha) HT.out
   have z1:=qM hbx x1
   have z2:=qM hbx x2
   have z3:=qM hbx x3
   have z4:=qM hbx x4
   have z5:=qM hbx x5
   have z6:=qM hbx x6
   have HA:=qL fun W=>zls x HX.lo HX.hi W
   obtain ⟨a,hae⟩: ∃ a,a=arN x.op:=⟨_,rfl⟩
   obtain ⟨rs,hrs⟩: ∃ rs,rs=ts.length - a:=⟨_,rfl⟩
   have e1:((ts.length:Int) - (a:Int))=(rs:Int):=by omega
   have e2:ts.length - rs=a:=by omega
   have hrl:rs<=ts.length:=by omega
   have hrc:rs<=vC:=by omega
   have HAE:=qL hae
   have HF3:=qL f3
   rw [<-hae] at ha hnt HF3 HA
   rw [<-hrs] at hnt HF3
   have HNT:=qL hnt
   have HVM:Hid (vC<=maxLen):=qL (zpu HO.out)
   have HSL:Hid (∀ W,Below wx.heap.size wx W->rKnd W (if vC=rs then vA else vA.map (·.add (rs*2))) a (ts.drop rs)):=qL fun W hb=>by
    have h:=zk5 (K:=yf6 282) hrd rs hrl vC hvc
    rw [e2] at h
    exact rKnd.later (zgm.1 h) hb
   have HN274:Hid (x.op≠1-> ∀ W sA sC,rKnd W sA a (ts.drop rs)->a<=sC->sC<=maxLen->Calls Tryz.prog 274 #[.agg #[.int .i64 x.op, .int .i64 x.vk, .int .i64 x.vm, .string x.vs, .string x.nm, .int .i64 x.ar], .slice sA a sC] W fun e w'=>e= .returned (.tuple #[.agg #[.int .i64 tk.k, .bool tk.nl], .bool true])/\Below W.heap.size W w'):=qL fun h1 W sA sC hs h5 h6=>
    yo0 HX h1 (by rw [List.length_drop,<-hae];omega) (fun b hb=>hinr b (List.mem_of_mem_drop hb)) hnt hs h5 h6
   obtain ⟨wa,hwa⟩: ∃ wa,wa=wx.alloc (.cells #[.int .i64 x.op, .int .i64 x.vk, .int .i64 x.vm, .string x.vs, .string x.nm, .int .i64 x.ar] 48):=⟨_,rfl⟩
   have hba:Below wx.heap.size wx wa:=by rw [hwa];exact zae _ _
   have k1:wa.cell? ⟨wx.heap.size,0,none⟩=some (.int .i64 x.op):=by rw [hwa];simp
   have k2:wa.cell? ⟨wx.heap.size,1,none⟩=some (.int .i64 x.vk):=by rw [hwa];simp
   have k3:wa.cell? ⟨wx.heap.size,2,none⟩=some (.int .i64 x.vm):=by rw [hwa];simp
   have k4:wa.cell? ⟨wx.heap.size,3,none⟩=some (.string x.vs):=by rw [hwa];simp
   have k5:wa.cell? ⟨wx.heap.size,4,none⟩=some (.string x.nm):=by rw [hwa];simp
   have k6:wa.cell? ⟨wx.heap.size,5,none⟩=some (.int .i64 x.ar):=by rw [hwa];simp
   have HBZ:=qL hba
   clear hc1 hx x1 x2 x3 x4 x5 x6 f2 f3 hbx hnt hinr HX hae hrs hba hrd
   go_wp2_with fail
   rw [<-hwa]
   clear hwa z1 z2 z3 z4 z5 z6
   refine (HA.out _).mono ?_
   rintro e w5 ⟨rfl,hb5⟩
   have HB5:=qL (btr HBZ.out hb5)
   have hb7:Below w5.heap.size w5 (w5.alloc (.cells #[.int .i64 0, .bool false] 282)):=zae _ _
   have HB7:=qL (btr HB5.out hb7)
   have k1:=qM hb7 (qM hb5 k1)
   have k2:=qM hb7 (qM hb5 k2)
   have k3:=qM hb7 (qM hb5 k3)
   have k4:=qM hb7 (qM hb5 k4)
   have k5:=qM hb7 (qM hb5 k5)
   have k6:=qM hb7 (qM hb5 k6)
   have j0:(w5.alloc (.cells #[.int .i64 0, .bool false] 282)).cell? ⟨w5.heap.size,0,none⟩=some (.int .i64 0):=by simp
   have j1:(w5.alloc (.cells #[.int .i64 0, .bool false] 282)).cell? ⟨w5.heap.size,1,none⟩=some (.bool false):=by simp
   have jf: ∀ o,(w5.alloc (.cells #[.int .i64 0, .bool false] 282)).frozen? ⟨w5.heap.size,o,none⟩=false:=fun o=>by simp
   have js:w5.heap.size<(w5.alloc (.cells #[.int .i64 0, .bool false] 282)).heap.size:=by simp
   have HSZ5:=qL HB5.out.size
   clear hb5 hb7
   go_upto_block 2 with fail
   obtain ⟨w7,hw7⟩: ∃ w7,w7=w5.alloc (.cells #[.int .i64 0, .bool false] 282):=⟨_,rfl⟩
   rw [<-hw7]
   rw [<-hw7] at k1 k2 k3 k4 k5 k6 j0 j1 jf js HB7
   clear hw7
   go_cut [14,15] from 29 to 96 (fun pv qv wc=>qv= .bool true/\Below wx.heap.size wx wc/\ ∃ B,wx.heap.size<=B/\pv= .pointer (some ⟨B,0,none⟩)/\wc.cell? ⟨B,0,none⟩=some (.int .i64 tk.k)/\wc.cell? ⟨B,1,none⟩=some (.bool tk.nl))
   case first=>
    by_cases h1:x.op=1
    ·have d1:(x.op==1)=true:=by simp [h1]
     obtain ⟨jj,cl,hjj,hcl,htk⟩: ∃ (jj:Nat) (cl:Col),yao cs x.nm=jj/\cs[jj]?=some cl/\tk=⟨cl.k,cl.nl⟩:=by
      obtain ⟨jj,cl,e,hc,_⟩:=zc3 (p:=yd1 x.nm) (l:=cs) (HXX.out.col h1)
      have e:yao cs x.nm=jj:=e
      refine ⟨jj,cl,e,hc,?_⟩
      have h:=HNT.out
      unfold ybg at h
      rw [if_pos h1,if_neg qF] at h
      have hca:yb4 cs x.nm=cl:=by
       unfold yb4
       rw [e,Int.toNat_natCast,List.getD_eq_getElem?_getD,hc];rfl
      rw [hca] at h
      exact (Option.some.inj h).symm
     have hIX:=zl9 cA cN cC cs x.nm w7 (HR.out.later (btr HBX.out HB7.out)) qF
     have hIX:Calls Tryz.prog 124 #[.slice cA cN cC, .string x.nm] w7 fun e w'=>e= .returned (.int .i64 jj)/\Below w7.heap.size w7 w':=by
      have h:=hIX
      rw [show yao cs x.nm=(jj:Int) from hjj] at h
      exact h
     have HIX:=qL hIX
     have hjn:jj<cN:=by have:=(qO hcl).1;have:=HR.out.len;omega
     obtain ⟨b2,o2,rfl,hc2⟩:=HR.out.opn qF
     obtain ⟨y1,y2,y3⟩:=hc2 jj cl hcl
     have i0:(0:Int)<=(jj:Int):=by omega
     have i1:(jj:Int)<(cN:Int):=by omega
     have HTK:=qL htk
     clear hIX hjj hcl hc2 htk h1 y1
     go_wp2_with fail
     refine HIX.out.mono ?_
     rintro e w6 ⟨rfl,hb6⟩
     have HB6:=qL (btr HB7.out hb6)
     have y2:=qM (btr HBX.out HB6.out) y2
     have y3:=qM (btr HBX.out HB6.out) y3
     have j0:=qM hb6 j0
     have j1:=qM hb6 j1
     have jg: ∀ o,w6.frozen? ⟨w5.heap.size,o,none⟩=false:=fun o=>(Below.frozen hb6 (p:=⟨w5.heap.size,o,none⟩) js).trans (jf o)
     have jt:w5.heap.size<w6.heap.size:=qQ js hb6.size
     clear hb6
     go_wp2_with fail
     go_still_tail 11,qG
     change wpList _ _ _ _ _ w6.drew
     go_wp2_with fail
     go_meet
     exact ⟨rfl,(HB6.out.drew.setCell (p:=⟨_,0,none⟩) HSZ5.out _).setCell (p:=⟨_,1,none⟩) HSZ5.out _,_,HSZ5.out,rfl,by rw [HTK.out];simp [go_sem,j0,j1],by rw [HTK.out];simp [go_sem,j0,j1]⟩
    ·have d1:(x.op==1)=false:=by simp [h1]
     have d21:(x.op==21)=false:=by have:=HXX.out.hi;simp;omega
     by_cases h20:x.op=20
     ·have d20:(x.op==20)=true:=by simp [h20]
      obtain ⟨y,hy,e⟩:=HXX.out.day h20
      obtain ⟨zs,jz,z,g1,g2,g3,g4,g5,g6⟩:=zqu (HZ.out.later (btr HBX.out HB7.out)) hy
      rw [<-e] at g2
      have HFI:=qL (zow zA zN zC zs x.nm jz z w7 g1 HZN.out g2 g3)
      clear hy e g1 g2 g3 g4 g5 g6 h20
      go_wp2_with fail
      refine HFI.out.mono ?_
      rintro e w6 ⟨rfl,hb6⟩
      have hb8:=btr hb6 (zae w6 (.cells #[.string z.nm, .int .i64 z.off, .slice z.shA z.shN z.shC] 80))
      have HB8:=qL (btr HB7.out hb8)
      have k1:=qM hb8 k1
      have k2:=qM hb8 k2
      have k3:=qM hb8 k3
      have k4:=qM hb8 k4
      have k5:=qM hb8 k5
      have k6:=qM hb8 k6
      have j0:=qM hb8 j0
      have j1:=qM hb8 j1
      have jg: ∀ o,(w6.alloc (.cells #[.string z.nm, .int .i64 z.off, .slice z.shA z.shN z.shC] 80)).frozen? ⟨w5.heap.size,o,none⟩=false:=fun o=>(Below.frozen hb8 (p:=⟨w5.heap.size,o,none⟩) js).trans (jf o)
      have jt:w5.heap.size<(w6.alloc (.cells #[.string z.nm, .int .i64 z.off, .slice z.shA z.shN z.shC] 80)).heap.size:=qQ js hb8.size
      clear hb8 hb6 jf js
      have jf:=jg
      have js:=jt
      clear jg jt
      go_upto_region 23 with fail
      obtain ⟨w8,hw8⟩: ∃ w8,w8=w6.alloc (.cells #[.string z.nm, .int .i64 z.off, .slice z.shA z.shN z.shC] 80):=⟨_,rfl⟩
      rw [<-hw8]
      rw [<-hw8] at HB8 k1 k2 k3 k4 k5 k6 j0 j1 jf js
      clear hw8
      by_cases hck:vC=rs
      ·have HNN:Hid (∀ W,Below wx.heap.size wx W->Calls Tryz.prog 274 #[.agg #[.int .i64 x.op, .int .i64 x.vk, .int .i64 x.vm, .string x.vs, .string x.nm, .int .i64 x.ar], .slice vA a 0] W fun e w'=>e= .returned (.tuple #[.agg #[.int .i64 tk.k, .bool tk.nl], .bool true])/\Below W.heap.size W w'):=qL fun W hb=>
        HN274.out h1 W vA 0 (by have h:=HSL.out W hb;rwa [if_pos hck] at h) qF (Nat.zero_le _)
       have hck2:=hck.symm
       clear hck HSL HN274 h1
       subst hck2
       go_wp2_with fail
       go_region_with (go_at_call 274;refine (HNN.out _ ?_).mono ?_;(with_reducible first |exact HB8.out|exact (HB8.out).drew);rintro e w9 ⟨rfl,hb9⟩;(try have hb9:=zb0 hb9);have i0:=qM hb9 j0;have i1:=qM hb9 j1;have jg: ∀ o,w9.frozen? ⟨w5.heap.size,o,none⟩=false:=(fun o=>(Below.frozen hb9 (p:=⟨w5.heap.size,o,none⟩) js).trans (jf o));have jt:w5.heap.size<w9.heap.size:=qQ js hb9.size)
       all_goals
        have HBF:=qL (btr HB8.out hb9)
        clear hb9
        go_wp2_with fail
        go_meet
        exact ⟨rfl,(HBF.out.setCell (p:=⟨_,0,none⟩) HSZ5.out _).setCell (p:=⟨_,1,none⟩) HSZ5.out _,_,HSZ5.out,rfl,by simp [go_sem,i0,i1],by simp [go_sem,i0,i1]⟩
      ·have HNN:Hid (∀ W,Below wx.heap.size wx W->Calls Tryz.prog 274 #[.agg #[.int .i64 x.op, .int .i64 x.vk, .int .i64 x.vm, .string x.vs, .string x.nm, .int .i64 x.ar], .slice (vA.map (·.add (rs*2))) a (vC - rs)] W fun e w'=>e= .returned (.tuple #[.agg #[.int .i64 tk.k, .bool tk.nl], .bool true])/\Below W.heap.size W w'):=qL fun W hb=>
        HN274.out h1 W _ (vC - rs) (by have h:=HSL.out W hb;rwa [if_neg hck] at h) qF (qR (Nat.sub_le _ _) HVM.out)
       clear HSL HN274 h1
       go_wp2_with fail
       go_region_with (go_at_call 274;refine (HNN.out _ ?_).mono ?_;(with_reducible first |exact HB8.out|exact (HB8.out).drew);rintro e w9 ⟨rfl,hb9⟩;(try have hb9:=zb0 hb9);have i0:=qM hb9 j0;have i1:=qM hb9 j1;have jg: ∀ o,w9.frozen? ⟨w5.heap.size,o,none⟩=false:=(fun o=>(Below.frozen hb9 (p:=⟨w5.heap.size,o,none⟩) js).trans (jf o));have jt:w5.heap.size<w9.heap.size:=qQ js hb9.size)
       all_goals
        have HBF:=qL (btr HB8.out hb9)
        clear hb9
        go_wp2_with fail
        go_meet
        exact ⟨rfl,(HBF.out.setCell (p:=⟨_,0,none⟩) HSZ5.out _).setCell (p:=⟨_,1,none⟩) HSZ5.out _,_,HSZ5.out,rfl,by simp [go_sem,i0,i1],by simp [go_sem,i0,i1]⟩
     ·have d20:(x.op==20)=false:=by simp [h20]
      clear h20
      by_cases hck:vC=rs
      ·have HNN:Hid (∀ W,Below wx.heap.size wx W->Calls Tryz.prog 274 #[.agg #[.int .i64 x.op, .int .i64 x.vk, .int .i64 x.vm, .string x.vs, .string x.nm, .int .i64 x.ar], .slice vA a 0] W fun e w'=>e= .returned (.tuple #[.agg #[.int .i64 tk.k, .bool tk.nl], .bool true])/\Below W.heap.size W w'):=qL fun W hb=>
        HN274.out h1 W vA 0 (by have h:=HSL.out W hb;rwa [if_pos hck] at h) qF (Nat.zero_le _)
       have hck2:=hck.symm
       clear hck HSL HN274 h1
       subst hck2
       go_wp2_with fail
       go_region_with (go_at_call 274;refine (HNN.out _ ?_).mono ?_;(with_reducible first |exact HB7.out|exact (HB7.out).drew);rintro e w9 ⟨rfl,hb9⟩;(try have hb9:=zb0 hb9);have i0:=qM hb9 j0;have i1:=qM hb9 j1;have jg: ∀ o,w9.frozen? ⟨w5.heap.size,o,none⟩=false:=(fun o=>(Below.frozen hb9 (p:=⟨w5.heap.size,o,none⟩) js).trans (jf o));have jt:w5.heap.size<w9.heap.size:=qQ js hb9.size)
       all_goals
        have HBF:=qL (btr HB7.out hb9)
        clear hb9
        go_wp2_with fail
        go_meet
        exact ⟨rfl,(HBF.out.setCell (p:=⟨_,0,none⟩) HSZ5.out _).setCell (p:=⟨_,1,none⟩) HSZ5.out _,_,HSZ5.out,rfl,by simp [go_sem,i0,i1],by simp [go_sem,i0,i1]⟩
      ·have HNN:Hid (∀ W,Below wx.heap.size wx W->Calls Tryz.prog 274 #[.agg #[.int .i64 x.op, .int .i64 x.vk, .int .i64 x.vm, .string x.vs, .string x.nm, .int .i64 x.ar], .slice (vA.map (·.add (rs*2))) a (vC - rs)] W fun e w'=>e= .returned (.tuple #[.agg #[.int .i64 tk.k, .bool tk.nl], .bool true])/\Below W.heap.size W w'):=qL fun W hb=>
        HN274.out h1 W _ (vC - rs) (by have h:=HSL.out W hb;rwa [if_neg hck] at h) qF (qR (Nat.sub_le _ _) HVM.out)
       clear HSL HN274 h1
       go_wp2_with fail
       go_region_with (go_at_call 274;refine (HNN.out _ ?_).mono ?_;(with_reducible first |exact HB7.out|exact (HB7.out).drew);rintro e w9 ⟨rfl,hb9⟩;(try have hb9:=zb0 hb9);have i0:=qM hb9 j0;have i1:=qM hb9 j1;have jg: ∀ o,w9.frozen? ⟨w5.heap.size,o,none⟩=false:=(fun o=>(Below.frozen hb9 (p:=⟨w5.heap.size,o,none⟩) js).trans (jf o));have jt:w5.heap.size<w9.heap.size:=qQ js hb9.size)
       all_goals
        have HBF:=qL (btr HB7.out hb9)
        clear hb9
        go_wp2_with fail
        go_meet
        exact ⟨rfl,(HBF.out.setCell (p:=⟨_,0,none⟩) HSZ5.out _).setCell (p:=⟨_,1,none⟩) HSZ5.out _,_,HSZ5.out,rfl,by simp [go_sem,i0,i1],by simp [go_sem,i0,i1]⟩
   case rest=>
    obtain ⟨rfl,hbc,B,hB,rfl,c0,c1⟩:=hcut
    have HBC:=qL hbc
    have HOS:=qL (HO.out.short hrl)
    have HV1:Hid (∀ q,(Value.slice vA rs vC).ownBlock=some q->w.heap.size<=q):=qL fun q e=>HV0.out q (by rw [zcd _ _ rs _];exact e)
    clear hbc
    go_wp2_with fail
    have hc5: ∀ (X:World) (b:Nat),X.cell? ⟨b,0,none⟩=some (.int .i64 tk.k)->X.cell? ⟨b,1,none⟩=some (.bool tk.nl)-> ∀ j u,(yas tk)[j]?=some u->X.cell? ((⟨b,0,none⟩:Addr).add j)=some u:=fun X b h0 h1 j u hj=>by
     rcases j with _|_|j
     ·simp [yas] at hj;subst hj;exact h0
     ·simp [yas] at hj;subst hj;exact h1
     ·simp [yas] at hj
    have HC5:=qL hc5
    clear hc5
    have hrs6:rs<1000000:=by omega
    have hszw:w.heap.size<=wc.heap.size:=(btr HBX.out HBC.out).size
    go_region_law (refine za3 _ qJ _ _ qJ PK (HOS.out.later (HBC.out.drew.alloc HBC.out.drew.size _)) ⟨_,0,none⟩ tk tk qJ qJ (HC5.out _ _ qH qH) rfl (fun p hp=>by cases hp) hrs6 (qR hszw qH) ?_;intro v' w' hown hgrow hat)
    have HOF:Hid (ownD (yf6 282) w' w.heap.size v' (ts.take rs++ [tk]).length (ts.take rs++ [tk])):=qL (za2 hown rfl)
    have HBF:Hid (Below w.heap.size w w'):=qL (zaf ((btr HBX.out HBC.out).drew.alloc (btr HBX.out HBC.out).size _) hgrow HV1.out)
    clear hown hgrow hat
    go_wp2
    go_roundw
    case rel=>exact ⟨k+1,_,by omega,by go_num,HBF.out,HF3,HOF⟩
    case measure=>simp [intOf];omega
  ·obtain rfl:k=n:=by omega
   have hrun:=HB.out []
   rw [List.take_of_length_le (by have:=HL.out;omega)] at HT
   have hT:=HT.out
   rw [hrun] at hT
   injection hT with hT
   subst hT
   obtain ⟨b,off,e4,hc4⟩:=(rKnd.later (zgm.1 hrd) (Below.refl _ _)).opn qH
   cases e4
   obtain ⟨c0,c1⟩:=hc4 0 t rfl
   simp only [Nat.zero_mul,Nat.add_zero] at c0 c1
   clear hc4 hrd hrun
   go_wp2_with fail
   go_region
   go_wp2_with fail
   exact bodyPost_ret (v:= .tuple #[.int .i64 t.k, .bool t.nl, .int .i64 0]) (by simp [results,Tryz.results242,go_sem]) rfl ⟨rfl,HBX.out.drew⟩
end
end Go.Proofs.YthcalfeoejdcgaaGreatDoor
