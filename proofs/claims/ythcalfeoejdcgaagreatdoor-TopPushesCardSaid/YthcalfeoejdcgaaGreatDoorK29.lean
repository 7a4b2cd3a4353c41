import Derived.Test.YthcalfeoejdcgaaGreatDoorK28
import Derived.Test.YthcalfeoejdcgaaGreatDoorK13
import Derived.Deep.RegionLaw
import Derived.Deep.CutRange
import Derived.Deep.CutBlock
namespace Go.Proofs.YthcalfeoejdcgaaGreatDoor
set_option linter.unusedSimpArgs false
set_option linter.unusedVariables false
set_option maxRecDepth 100000
set_option maxHeartbeats 20000000
open Go.RowKit Go.BigFrame
theorem zmf {s:ByteArray}(h:ybc s=true):s.size<=24:=by
 rcases Nat.lt_or_ge 24 s.size with h1|h1
 ·have:=ze1 (s:=s) qF
  rw [<-this] at h;cases h
 ·exact h1
def MpTo (cs:List Col)(r:List Val)(k:Nat)(f:List UInt8->Option Value):Prop:= ∀ j c v,j<k->cs[j]?=some c->r[j]?=some v->f c.nm.data.toList=some (.agg #[.int .i64 (v).k, .int .i64 (v).m, .string (v).s])
theorem MpTo.put {cs:List Col}{r:List Val}{k:Nat}{f:List UInt8->Option Value}(h:MpTo cs r k f)(hok:okCols cs){c:Col}{v:Val}(hc:cs[k]?=some c)(hv:r[k]?=some v):MpTo cs r (k+1) (yc1 f c.nm.data.toList (.agg #[.int .i64 (v).k, .int .i64 (v).m, .string (v).s])):=fun j c' v' hj hc' hv'=>by
 unfold yc1
 by_cases hjk:j=k
 ·subst hjk
  rw [hc] at hc';cases hc'
  rw [hv] at hv';cases hv'
  rw [if_pos rfl]
 ·rw [if_neg]
  ·exact h j c' v' qF hc' hv'
  ·intro e
   have e1:=(hok.2.2 j c' hc').2.2.2
   have e2:=(hok.2.2 k c hc).2.2.2
   have e3:c'.nm=c.nm:=ByteArray.ext (Array.ext' e)
   rw [e3,e2] at e1
   omega
theorem MpTo.get {cs:List Col}{r:List Val}{f:List UInt8->Option Value}(h:MpTo cs r cs.length f)(hr:r.length=cs.length){nm:ByteArray}(hi:0<=yao cs nm):f nm.data.toList=some (.agg #[.int .i64 (yb6 cs r nm).k, .int .i64 (yb6 cs r nm).m, .string (yb6 cs r nm).s]):=by
 obtain ⟨j,c,e,hc,hp⟩:=zc3 (p:=yd1 nm) (l:=cs) hi
 have e:yao cs nm=j:=e
 have hj:j<cs.length:=(qO hc).1
 have en:c.nm.toList=nm.toList:=by simpa [yd1] using hp
 have e2:c.nm=nm:=toList_inj en
 have hv:r[j]?=some r[j]:=List.getElem?_eq_getElem qF
 have:=h j c _ hj hc hv
 rw [e2] at this
 rw [this]
 have e1:yb6 cs r nm=r[j]:=by
  unfold yb6
  rw [e,Int.toNat_natCast,List.getD_eq_getElem?_getD,hv];rfl
 rw [e1]
theorem zmj {cs:List Col}{r:List Val}{x:Nod}{l:List Val}{v:Val}(h1:x.op≠1)(h:yen x l=some v):yf8 cs r x l=v:=by
 unfold yf8
 rw [if_neg h1,h]
theorem zmi {cs:List Col}{r:List Val}{x:Nod}{l:List Val}(h1:x.op≠1)(h:yen x l=none)(hn:ycb l=true):yf8 cs r x l=zV:=by
 unfold yf8
 rw [if_neg h1,h]
 simp only
 rw [if_pos hn]
theorem zmg {cs:List Col}{r:List Val}{x:Nod}{l:List Val}(h1:x.op≠1)(h:yen x l=none)(hn:ycb l=false):yf8 cs r x l=ybm x l:=by
 unfold yf8
 rw [if_neg h1,h]
 simp only
 rw [if_neg (by rw [hn];simp)]
theorem zmh {cs:List Col}{r:List Val}{x:Nod}{l:List Val}(h1:x.op=1):yf8 cs r x l=yb6 cs r x.nm:=by
 unfold yf8
 rw [if_pos h1]
theorem zp0 {cs:List Col}{r:List Val}{p:List Nod}{k:Nat}{x:Nod}(h:p[k]?=some x)(st:List Val):yez cs r (p.take (k+1)) st=ygj cs r (yez cs r (p.take k) st) x:=by
 rw [zbc h,zk6]
 rfl
theorem ykk {w:World}{base n c:Nat}{A:Option Addr}{l:List Val}(h:ownD kVal w base (.slice A n c) n l):c<=maxLen:=by
 obtain ⟨es,⟨h0,h1⟩,_⟩:=h
 rcases h1 with ⟨e,_⟩|⟨g,cap,cur,e,_,_,_,hm,_⟩
 ·injection e with _ _ e3;omega
 ·injection e with _ _ e3;omega
theorem zmy {x:Nod}{l:List Val}(h:x.op=1):yen x l=none:=by
 unfold yen
 rw [if_neg qF,if_neg qF,if_neg qF,if_neg qF,if_neg qF,if_neg qF]
theorem zly {cs:List Col}(hok:okCols cs){nm:ByteArray}(hi:0<=yao cs nm):nm.size<=24:=by
 obtain ⟨j,c,e,hc,hp⟩:=zc3 (p:=yd1 nm) (l:=cs) hi
 have en:c.nm.toList=nm.toList:=by simpa [yd1] using hp
 rw [<-toList_inj en]
 exact zmf (hok.2.2 j c hc).1
def yqy (cs:List Col)(r:List Val)(p:List Nod)(k:Nat)(ts:List Knd)(vs:List Val):Prop:=yb5 cs (p.take k) []=some ts/\okSt ts vs/\vs=yez cs r (p.take k) []
theorem Yem {cs:List Col}{t:Knd}(A:Option Addr)(n c:Nat)(p:List Nod)(cA:Option Addr)(cN cC:Nat)(rA:Option Addr)(rN rC:Nat)(r:List Val)(zA:Option Addr)(zN zC:Nat)(w:World)(hX:okX cs p t)(hn:rNod w A n p)(hc:rCol w cA cN cs)(hcc:cN<=cC)(hr:rVal w rA rN r)(hrow:okRow cs r)(hz:rZns w zA zN)(hT:Tbs w):
 Calls Tryz.prog 205 #[.slice A n c, .slice cA cN cC, .slice rA rN rC, .slice zA zN zC] w fun e w'=>e= .returned (.tuple #[.agg #[.int .i64 (ycg cs r p).k, .int .i64 (ycg cs r p).m, .string (ycg cs r p).s], .int .i64 0])/\Below w.heap.size w w':=by
 obtain ⟨iV,PV⟩:=yy8
 obtain ⟨w0,hw0⟩: ∃ w0,w0=w.alloc (.cells #[.int .i64 0, .int .i64 0, .string ⟨#[]⟩] 46):=⟨_,rfl⟩
 have hb0:Below w.heap.size w w0:=by rw [hw0];exact zae _ _
 have z0:w0.cell? ⟨w.heap.size,0,none⟩=some (.int .i64 0):=by rw [hw0];simp
 have z1:w0.cell? ⟨w.heap.size,1,none⟩=some (.int .i64 0):=by rw [hw0];simp
 have z2:w0.cell? ⟨w.heap.size,2,none⟩=some (.string ⟨#[]⟩):=by rw [hw0];simp
 have zf: ∀ o,w0.frozen? ⟨w.heap.size,o,none⟩=false:=fun o=>by rw [hw0];simp
 have zs:w.heap.size<w0.heap.size:=by rw [hw0];simp
 have HB0:=qL hb0
 have H1:=qL (Ych A n c p cA cN cC zA zN zC w0 hX (hn.later hb0) (hc.later hb0) hcc (hz.later hb0) (hT.later hb0 (qV _)))
 have hcn:cN<=12:=by have:=hc.len;have:=hX.cols.2.1;omega
 have H2:=qL fun W (hb:Below w.heap.size w W)=>chkE cA cN cC cs rA rN rC r W (hc.later hb) (hr.later hb) hrow qF
 have H:=qL hn
 have HL:=qL hn.len
 have HXX:=qL hX
 have HC:=qL hc
 have HCL:=qL hc.len
 have HR:=qL hr
 have HRL0:Hid (r.length=rN/\r.length=cs.length):=qL ⟨hr.len,hrow.1⟩
 have HRW:=qL hrow
 have HZ:=qL hz
 have hn60:n<=60:=by have:=hn.len;have:=hX.len;omega
 have hrn:rN=cN:=by have:=hr.len;have:=hc.len;have:=hrow.1;omega
 clear hX hn hc hr hrow hz hT hb0
 subst hrn
 go_enter Tryz.func205,Tryz.ntmps205
 go_wp2_with fail
 rw [<-hw0]
 clear hw0
 refine H1.out.mono ?_
 rintro e w1 ⟨rfl,hb1⟩
 have z0:=qM hb1 z0;have z1:=qM hb1 z1;have z2:=qM hb1 z2;have zf: ∀ o,w1.frozen? ⟨w.heap.size,o,none⟩=false:=(fun o=>(Below.frozen hb1 (p:=⟨w.heap.size,o,none⟩) zs).trans (zf o));have zs:w.heap.size<w1.heap.size:=qQ zs (Below.size hb1)
 have HB1:=qL (btr HB0.out hb1)
 clear hb1
 go_wp2_with fail
 refine (H2.out _ HB1.out).mono ?_
 rintro e w2 ⟨rfl,hb2⟩
 have z0:=qM hb2 z0;have z1:=qM hb2 z1;have z2:=qM hb2 z2;have zf: ∀ o,w2.frozen? ⟨w.heap.size,o,none⟩=false:=(fun o=>(Below.frozen hb2 (p:=⟨w.heap.size,o,none⟩) zs).trans (zf o));have zs:w.heap.size<w2.heap.size:=qQ zs (Below.size hb2)
 have HB2:=qL (btr HB1.out hb2)
 have hmk1:(Instr.makeMap 251 none).run Tryz.prog w2= .ok (.map (some w2.heap.size)) (w2.alloc (.map #[] 0)):=by simp [Instr.makeMap]
 clear hb2
 go_wp2
 clear hmk1
 go_loopw [46] (fun i wr=> ∃ (k:Nat) (f:List UInt8->Option Value),k<=rN/\i= .int .i64 k/\Below w2.heap.size w2 wr/\w2.heap.size<wr.heap.size/\Hid (Mp Tryz.prog 9 wr w2.heap.size k f)/\Hid (MpTo cs r k f)) (fun i _=>rN - (intOf i).toNat)
 case atStart=>exact ⟨0,_,by omega,rfl,zae _ _,by simp,qL (Mp.made w2),qL fun j c v hj=>absurd hj qF⟩
 case round=>
  obtain ⟨k,f,hk,rfl,hbw,hsz,HMP,HMT⟩:=hrel
  have HBW:=qL hbw
  have HBWW:=qL (btr HB2.out hbw)
  by_cases hlt:k<rN
  ·obtain ⟨b1,o1,rfl,hc1⟩:=HC.out.opn qF
   obtain ⟨cl,hcl⟩:=zah (l:=cs) (k:=k) (by have:=HCL.out;omega)
   obtain ⟨x1,x2,x3⟩:=hc1 k cl hcl
   obtain ⟨b2,o2,rfl,hc2⟩:=HR.out.opn qF
   obtain ⟨v,hv⟩:=zah (l:=r) (k:=k) (by have:=HRL0.out.1;omega)
   obtain ⟨y1,y2,y3⟩:=hc2 k v hv
   have x1:=qM HBWW.out x1
   have x2:=qM HBWW.out x2
   have x3:=qM HBWW.out x3
   have y1:=qM HBWW.out y1
   have y2:=qM HBWW.out y2
   have y3:=qM HBWW.out y3
   obtain ⟨wa,hwa⟩: ∃ wa,wa=wr.alloc (.cells #[.string cl.nm, .int .i64 cl.k, .bool cl.nl] 56):=⟨_,rfl⟩
   have hbwa:Below wr.heap.size wr wa:=by rw [hwa];exact zae _ _
   have HBWA:=qL (btr HBW.out hbwa)
   have y1:=qM hbwa y1
   have y2:=qM hbwa y2
   have y3:=qM hbwa y3
   have q0:wa.cell? ⟨wr.heap.size,0,none⟩=some (.string cl.nm):=by rw [hwa];simp
   have HMT2:=qL (HMT.out.put HXX.out.cols hcl hv)
   have hnm:cl.nm.size<=maxLen:=by
    have h24:=zmf (HXX.out.cols.2.2 k cl hcl).1
    unfold maxLen;omega
   have HMP2:=qL (HMP.out.later hbwa)
   have hsza:=qQ hsz hbwa.size
   have hkm:k<maxLen:=by unfold maxLen;omega
   clear hc1 hcl hc2 hv hbw hbwa
   go_wp2_with fail
   rw [<-hwa]
   clear hwa x1 x2 x3
   go_still_tail 7,qG
   change wpList _ _ _ _ _ wa.drew
   refine ziq _ rfl _ _ _ 251 rfl 9 46 Tryz.underlying9 Tryz.underlying251 w2.heap.size k f rfl HMP2.out.drew hkm cl.nm (.agg #[.int .i64 (v).k, .int .i64 (v).m, .string (v).s]) rfl rfl hnm ?_
   intro w' hmp' hgrow
   have HMP3:=qL hmp'
   have HB3:Hid (Below w2.heap.size w2 w'):=qL (zaf (v:= .slice (some ⟨w2.heap.size,0,none⟩) 0 0) HBWA.out.drew hgrow (fun q e=>by cases e;exact qV _))
   have hsz3:w2.heap.size<w'.heap.size:=qQ hsza hgrow.size
   clear hmp' hgrow
   go_wp2
   go_roundw
   case rel=>exact ⟨k+1,_,by omega,by go_num,HB3.out,hsz3,HMP3,HMT2⟩
   case measure=>simp [intOf];omega
  ·obtain rfl:k=rN:=by omega
   obtain ⟨w3,rfl⟩: ∃ w3,w3=wr:=⟨_,rfl⟩
   have HRL2:Hid (r.length=cs.length):=qL HRL0.out.2
   have z0:=qM hbw z0;have z1:=qM hbw z1;have z2:=qM hbw z2;have zf: ∀ o,w3.frozen? ⟨w.heap.size,o,none⟩=false:=(fun o=>(Below.frozen hbw (p:=⟨w.heap.size,o,none⟩) zs).trans (zf o));have zs:w.heap.size<w3.heap.size:=qQ zs (Below.size hbw)
   have HMTF:Hid (MpTo cs r cs.length f):=qL (by rw [<-HCL.out] at HMT;exact HMT.out)
   clear hbw
   go_wp2
   go_loopw [17,61] (fun v i wx=> ∃ (j:Nat) (ts:List Knd) (vs:List Val),j<=n/\i= .int .i64 j/\Below w3.heap.size w3 wx/\Hid (yqy cs r p j ts vs)/\Hid (ownD kVal wx w3.heap.size v vs.length vs)) (fun _ i _=>n - (intOf i).toNat)
   case atStart=>exact ⟨0,[],[],by omega,rfl,za0 _,qL ⟨rfl,trivial,rfl⟩,qL (ownD.nil _ _)⟩
   case round=>
    obtain ⟨j,ts,vs,hjn,rfl,hbx,HST,HO⟩:=hrel
    obtain ⟨wx,rfl⟩: ∃ wx,wx=wr:=⟨_,rfl⟩
    have HBX:=qL hbx
    have HBXX:Hid (Below w.heap.size w wx):=qL (btr HBWW.out hbx)
    have HV0:Hid (∀ y,u17.ownBlock=some y->w3.heap.size<=y):=qL fun y e=>(HO.out.lt y e).1
    obtain ⟨vA,vC,hv17,hvc,hrd,_⟩:=HO.out.rd
    subst hv17
    have hvl:vs.length<=j:=by
     have h1:=zdu HST.out.1
     have h2:=HST.out.2.1.len
     rw [List.length_take] at h1
     simp at h1;omega
    by_cases hlt2:j<n
    ·obtain ⟨b1,o1,rfl,hc1⟩:=H.out.opn qF
     obtain ⟨x,hx⟩:=zah (l:=p) (k:=j) (by have:=HL.out;omega)
     obtain ⟨x1,x2,x3,x4,x5,x6⟩:=hc1 j x hx
     obtain ⟨s1,s2,f1,f2,f3⟩:=zdk (HXX.out.blk []) hx
     rw [HST.out.1] at f1
     cases f1
     obtain ⟨ha,tk,hnt,hs2⟩:=zgs f2
     subst hs2
     have HX:=HXX.out.nod x (qP hx)
     have HXN:=qL HX
     have z1':=qM HBXX.out x1
     have z2':=qM HBXX.out x2
     have z3':=qM HBXX.out x3
     have z4':=qM HBXX.out x4
     have z5':=qM HBXX.out x5
     have z6':=qM HBXX.out x6
     have hlen:=HST.out.2.1.len
     obtain ⟨a,hae⟩: ∃ a,a=arN x.op:=⟨_,rfl⟩
     obtain ⟨rs,hrs⟩: ∃ rs,rs=vs.length - a:=⟨_,rfl⟩
     have e1:((vs.length:Int) - (a:Int))=(rs:Int):=by omega
     have e2:vs.length - rs=a:=by omega
     have hrl:rs<=vs.length:=by omega
     have hrc:rs<=vC:=by omega
     have hts:ts.length - arN x.op=rs:=by omega
     rw [hts] at hnt f3
     obtain ⟨l,hl⟩: ∃ l,l=vs.drop rs:=⟨_,rfl⟩
     have hll:l.length=a:=by rw [hl,List.length_drop];exact e2
     have HLS:Hid (okSt (ts.drop rs) l):=qL (by rw [hl];exact HST.out.2.1.drop rs)
     have hkv:okK tk (yf8 cs r x l):=ykb HRW.out HX (by rw [List.length_drop];omega) HLS.out hnt
     obtain ⟨y,hy⟩: ∃ y,y=yf8 cs r x l:=⟨_,rfl⟩
     have HY:=qL hy
     have HST2:Hid (yqy cs r p (j+1) (ts.take rs++ [tk]) (vs.take rs++ [y])):=qL (by
      refine ⟨f3,?_,?_⟩
      ·rw [hy];exact (HST.out.2.1.take rs).snoc hkv
      ·rw [zp0 hx,<-HST.out.2.2]
       unfold ygj
       rw [<-hae,<-hrs,<-hl,hy])
     have HA:=qL fun W=>zls x HX.lo HX.hi W
     rw [<-hae] at HA
     have HLL:Hid (l.length=arN x.op):=qL (by rw [hll,hae])
     have HNT:=qL hnt
     have HVM:Hid (vC<=maxLen):=qL (ykk HO.out)
     have HSL:Hid (∀ W,Below wx.heap.size wx W->rVal W (if vC=rs then vA else vA.map (·.add (rs*3))) a l):=qL fun W hb=>by
      have h:=zk5 (K:=kVal) hrd rs hrl vC hvc
      rw [e2,<-hl] at h
      exact rVal.later (zb4.1 h) hb
     have HOS:=qL (HO.out.short hrl)
     have HV1:Hid (∀ q,(Value.slice vA rs vC).ownBlock=some q->w3.heap.size<=q):=qL fun q e=>HV0.out q (by rw [zcd _ _ rs _];exact e)
     have hba:Below wx.heap.size wx (wx.alloc (.cells #[.int .i64 x.op, .int .i64 x.vk, .int .i64 x.vm, .string x.vs, .string x.nm, .int .i64 x.ar] 48)):=zae _ _
     have k1:(wx.alloc (.cells #[.int .i64 x.op, .int .i64 x.vk, .int .i64 x.vm, .string x.vs, .string x.nm, .int .i64 x.ar] 48)).cell? ⟨wx.heap.size,0,none⟩=some (.int .i64 x.op):=by simp
     have k2:(wx.alloc (.cells #[.int .i64 x.op, .int .i64 x.vk, .int .i64 x.vm, .string x.vs, .string x.nm, .int .i64 x.ar] 48)).cell? ⟨wx.heap.size,1,none⟩=some (.int .i64 x.vk):=by simp
     have k3:(wx.alloc (.cells #[.int .i64 x.op, .int .i64 x.vk, .int .i64 x.vm, .string x.vs, .string x.nm, .int .i64 x.ar] 48)).cell? ⟨wx.heap.size,2,none⟩=some (.int .i64 x.vm):=by simp
     have k4:(wx.alloc (.cells #[.int .i64 x.op, .int .i64 x.vk, .int .i64 x.vm, .string x.vs, .string x.nm, .int .i64 x.ar] 48)).cell? ⟨wx.heap.size,3,none⟩=some (.string x.vs):=by simp
     have k5:(wx.alloc (.cells #[.int .i64 x.op, .int .i64 x.vk, .int .i64 x.vm, .string x.vs, .string x.nm, .int .i64 x.ar] 48)).cell? ⟨wx.heap.size,4,none⟩=some (.string x.nm):=by simp
     have k6:(wx.alloc (.cells #[.int .i64 x.op, .int .i64 x.vk, .int .i64 x.vm, .string x.vs, .string x.nm, .int .i64 x.ar] 48)).cell? ⟨wx.heap.size,5,none⟩=some (.int .i64 x.ar):=by simp
     have HBZ:=qL hba
     clear hc1 hx x1 x2 x3 x4 x5 x6 f2 f3 hbx hnt HX hae hrs hba hrd hlen hts hl hll hkv hy
     go_wp2_with fail
     clear z1' z2' z3' z4' z5' z6'
     refine (HA.out _).mono ?_
     rintro e w5 ⟨rfl,hb5⟩
     have HB5:=qL (btr HBZ.out hb5)
     have k1:=qM hb5 k1
     have k2:=qM hb5 k2
     have k3:=qM hb5 k3
     have k4:=qM hb5 k4
     have k5:=qM hb5 k5
     have k6:=qM hb5 k6
     clear hb5
     by_cases hck:vC=rs
     ·have HRL:Hid (∀ W,Below wx.heap.size wx W->rVal W vA a l):=qL fun W hb=>by
       have h:=HSL.out W hb
       rwa [if_pos hck] at h
      have hck2:=hck.symm
      clear hck HSL
      subst hck2
      have HSP:=qL (spcX x (vA) a (0) l w5 (HRL.out _ HB5.out) HLL.out)
      have HAPL:Hid (x.op≠1->yen x l=none->ycb l=false-> ∀ W,Below wx.heap.size wx W->Calls Tryz.prog 249 #[.agg #[.int .i64 x.op, .int .i64 x.vk, .int .i64 x.vm, .string x.vs, .string x.nm, .int .i64 x.ar], .slice (vA) a (0), .slice zA zN zC] W fun e w'=>e= .returned (.agg #[.int .i64 (ybm x l).k, .int .i64 (ybm x l).m, .string (ybm x l).s])/\Below W.heap.size W w'):=qL fun h1 h2 h3 W hb=>aplX x (vA) zA a (0) zN zC _ tk l W HXN.out (HRL.out W hb) HLL.out HLS.out HNT.out h3 h1 h2 (HZ.out.later (btr HBXX.out hb))
      have HCON:Hid (∀ W,Below wx.heap.size wx W->Calls Tryz.prog 248 #[.slice (vA) a (0),(.agg #[.int .i64 0, .int .i64 0, .string ⟨#[]⟩])] W fun e w'=>e= .returned (.bool (ycb l))/\Below W.heap.size W w'):=qL fun W hb=>zkf (vA) a (0) l W (HRL.out W hb) qF
      by_cases h1:x.op=1
      ·have d1:(x.op==1)=true:=by simp [h1]
       have hs:yen x l=none:=zmy h1
       rw [hs] at HSP
       have HSP:Hid (Calls Tryz.prog 247 #[.agg #[.int .i64 x.op, .int .i64 x.vk, .int .i64 x.vm, .string x.vs, .string x.nm, .int .i64 x.ar], .slice (vA) a (0)] w5 fun e w'=>e= .returned (.tuple #[(.agg #[.int .i64 0, .int .i64 0, .string ⟨#[]⟩]), .bool false])/\Below w5.heap.size w5 w'):=HSP
       have HEY:Hid (y=yb6 cs r x.nm):=qL (by rw [HY.out,zmh h1])
       have hfn:f x.nm.data.toList=some (.agg #[.int .i64 (y).k, .int .i64 (y).m, .string (y).s]):=by rw [HEY.out];exact HMTF.out.get HRL2.out (HXN.out.col h1)
       have hnm:x.nm.size<=maxLen:=by have:=zly HXX.out.cols (HXN.out.col h1);unfold maxLen;omega
       have HLOOK:Hid (∀ W,Below wx.heap.size wx W->(Instr.lookup 251 (.map (some w2.heap.size)) (.string x.nm) false).run Tryz.prog W= .ok (.agg #[.int .i64 (y).k, .int .i64 (y).m, .string (y).s]) W):=qL fun W hb=>by
        have h:=(HMP.out.later (btr HBX.out hb)).look Tryz.underlying9 Tryz.underlying251 (z:=(.agg #[.int .i64 0, .int .i64 0, .string ⟨#[]⟩])) (Tryz.zeroValue46 _) x.nm hnm
        rw [hfn] at h
        exact h
       clear hs hfn hnm h1
       go_wp2_with fail
       refine HSP.out.mono ?_
       rintro e w6 ⟨rfl,hb6⟩
       have HB6:=qL (btr HB5.out hb6)
       have k1:=qM hb6 k1
       have k2:=qM hb6 k2
       have k3:=qM hb6 k3
       have k4:=qM hb6 k4
       have k5:=qM hb6 k5
       have k6:=qM hb6 k6
       clear hb6
       have hb7:Below w6.heap.size w6 (w6.alloc (.cells #[.int .i64 0, .int .i64 0, .string ⟨#[]⟩] 46)):=zae _ _
       have HB7:=qL (btr HB6.out hb7)
       have k1:=qM hb7 k1
       have k2:=qM hb7 k2
       have k3:=qM hb7 k3
       have k4:=qM hb7 k4
       have k5:=qM hb7 k5
       have k6:=qM hb7 k6
       have j0:(w6.alloc (.cells #[.int .i64 0, .int .i64 0, .string ⟨#[]⟩] 46)).cell? ⟨w6.heap.size,0,none⟩=some (.int .i64 0):=by simp
       have j1:(w6.alloc (.cells #[.int .i64 0, .int .i64 0, .string ⟨#[]⟩] 46)).cell? ⟨w6.heap.size,1,none⟩=some (.int .i64 0):=by simp
       have j2:(w6.alloc (.cells #[.int .i64 0, .int .i64 0, .string ⟨#[]⟩] 46)).cell? ⟨w6.heap.size,2,none⟩=some (.string ⟨#[]⟩):=by simp
       have jf: ∀ o,(w6.alloc (.cells #[.int .i64 0, .int .i64 0, .string ⟨#[]⟩] 46)).frozen? ⟨w6.heap.size,o,none⟩=false:=fun o=>by simp
       have js:w6.heap.size<(w6.alloc (.cells #[.int .i64 0, .int .i64 0, .string ⟨#[]⟩] 46)).heap.size:=by simp
       have HSZ6:=qL HB6.out.size
       clear hb7
       go_upto_block 4 with fail
       obtain ⟨w7,hw7⟩: ∃ w7,w7=w6.alloc (.cells #[.int .i64 0, .int .i64 0, .string ⟨#[]⟩] 46):=⟨_,rfl⟩
       rw [<-hw7]
       rw [<-hw7] at k1 k2 k3 k4 k5 k6 j0 j1 j2 jf js HB7
       clear hw7
       go_cut [22] from 62 to 106 (fun pv wc=>pv= .pointer (some ⟨w6.heap.size,0,none⟩)/\Below wx.heap.size wx wc/\wc.cell? ⟨w6.heap.size,0,none⟩=some (.int .i64 y.k)/\wc.cell? ⟨w6.heap.size,1,none⟩=some (.int .i64 y.m)/\wc.cell? ⟨w6.heap.size,2,none⟩=some (.string y.s))
       case first=>
        have hlk:=HLOOK.out w7 HB7.out
        go_wp2_with fail
        go_meet
        exact ⟨rfl,((HB7.out.setCell (p:=⟨_,0,none⟩) HSZ6.out _).setCell (p:=⟨_,1,none⟩) HSZ6.out _).setCell (p:=⟨_,2,none⟩) HSZ6.out _,by simp [go_sem,j0,j1,j2],by simp [go_sem,j0,j1,j2],by simp [go_sem,j0,j1,j2]⟩
       case rest=>
        obtain ⟨rfl,hbc,c0,c1,c2⟩:=hcut
        have HBC:=qL hbc
        clear hbc
        go_wp2_with fail
        have hrs6:rs<1000000:=by omega
        have hszw:w3.heap.size<=wc.heap.size:=(btr HBX.out HBC.out).size
        go_region_law (refine za3 _ qJ _ _ qJ PV (HOS.out.later (HBC.out.drew.alloc HBC.out.drew.size _)) ⟨_,0,none⟩ y y qJ qJ (by exact zbl _ _ _ _ _) rfl (fun p hp=>by cases hp) hrs6 (qR hszw qH) ?_;intro v' w' hown hgrow hat)
        have HOF:Hid (ownD kVal w' w3.heap.size v' (vs.take rs++ [y]).length (vs.take rs++ [y])):=qL (za2 hown rfl)
        have HBF:Hid (Below w3.heap.size w3 w'):=qL (zaf ((btr HBX.out HBC.out).drew.alloc (btr HBX.out HBC.out).size _) hgrow HV1.out)
        clear hown hgrow hat
        go_wp2
        go_roundw
        case rel=>exact ⟨j+1,_,_,by omega,by go_num,HBF.out,HST2,HOF⟩
        case measure=>simp [intOf];omega
      ·have d1:(x.op==1)=false:=by simp [h1]
       cases hs:yen x l with
       |some v=>
        rw [hs] at HSP
        have HSP:Hid (Calls Tryz.prog 247 #[.agg #[.int .i64 x.op, .int .i64 x.vk, .int .i64 x.vm, .string x.vs, .string x.nm, .int .i64 x.ar], .slice (vA) a (0)] w5 fun e w'=>e= .returned (.tuple #[.agg #[.int .i64 (v).k, .int .i64 (v).m, .string (v).s], .bool true])/\Below w5.heap.size w5 w'):=HSP
        have hyv:v=y:=by rw [HY.out,zmj h1 hs]
        subst hyv
        clear hs h1 HAPL
        go_wp2_with fail
        refine HSP.out.mono ?_
        rintro e w6 ⟨rfl,hb6⟩
        have HB6:=qL (btr HB5.out hb6)
        have k1:=qM hb6 k1
        have k2:=qM hb6 k2
        have k3:=qM hb6 k3
        have k4:=qM hb6 k4
        have k5:=qM hb6 k5
        have k6:=qM hb6 k6
        clear hb6
        have hb7:Below w6.heap.size w6 (w6.alloc (.cells #[.int .i64 v.k, .int .i64 v.m, .string v.s] 46)):=zae _ _
        have HB7:=qL (btr HB6.out hb7)
        have k1:=qM hb7 k1
        have k2:=qM hb7 k2
        have k3:=qM hb7 k3
        have k4:=qM hb7 k4
        have k5:=qM hb7 k5
        have k6:=qM hb7 k6
        have j0:(w6.alloc (.cells #[.int .i64 v.k, .int .i64 v.m, .string v.s] 46)).cell? ⟨w6.heap.size,0,none⟩=some (.int .i64 v.k):=by simp
        have j1:(w6.alloc (.cells #[.int .i64 v.k, .int .i64 v.m, .string v.s] 46)).cell? ⟨w6.heap.size,1,none⟩=some (.int .i64 v.m):=by simp
        have j2:(w6.alloc (.cells #[.int .i64 v.k, .int .i64 v.m, .string v.s] 46)).cell? ⟨w6.heap.size,2,none⟩=some (.string v.s):=by simp
        have jf: ∀ o,(w6.alloc (.cells #[.int .i64 v.k, .int .i64 v.m, .string v.s] 46)).frozen? ⟨w6.heap.size,o,none⟩=false:=fun o=>by simp
        have js:w6.heap.size<(w6.alloc (.cells #[.int .i64 v.k, .int .i64 v.m, .string v.s] 46)).heap.size:=by simp
        have HSZ6:=qL HB6.out.size
        clear hb7
        go_upto_block 4 with fail
        obtain ⟨w7,hw7⟩: ∃ w7,w7=w6.alloc (.cells #[.int .i64 v.k, .int .i64 v.m, .string v.s] 46):=⟨_,rfl⟩
        rw [<-hw7]
        rw [<-hw7] at k1 k2 k3 k4 k5 k6 j0 j1 j2 jf js HB7
        clear hw7
        go_cut [22] from 62 to 106 (fun pv wc=>pv= .pointer (some ⟨w6.heap.size,0,none⟩)/\Below wx.heap.size wx wc/\wc.cell? ⟨w6.heap.size,0,none⟩=some (.int .i64 v.k)/\wc.cell? ⟨w6.heap.size,1,none⟩=some (.int .i64 v.m)/\wc.cell? ⟨w6.heap.size,2,none⟩=some (.string v.s))
        case first=>
         go_wp2_with fail
         go_meet
         exact ⟨rfl,HB7.out,j0,j1,j2⟩
        case rest=>
         obtain ⟨rfl,hbc,c0,c1,c2⟩:=hcut
         have HBC:=qL hbc
         clear hbc
         go_wp2_with fail
         have hrs6:rs<1000000:=by omega
         have hszw:w3.heap.size<=wc.heap.size:=(btr HBX.out HBC.out).size
         go_region_law (refine za3 _ qJ _ _ qJ PV (HOS.out.later (HBC.out.drew.alloc HBC.out.drew.size _)) ⟨_,0,none⟩ v v qJ qJ (by exact zbl _ _ _ _ _) rfl (fun p hp=>by cases hp) hrs6 (qR hszw qH) ?_;intro v' w' hown hgrow hat)
         have HOF:Hid (ownD kVal w' w3.heap.size v' (vs.take rs++ [v]).length (vs.take rs++ [v])):=qL (za2 hown rfl)
         have HBF:Hid (Below w3.heap.size w3 w'):=qL (zaf ((btr HBX.out HBC.out).drew.alloc (btr HBX.out HBC.out).size _) hgrow HV1.out)
         clear hown hgrow hat
         go_wp2
         go_roundw
         case rel=>exact ⟨j+1,_,_,by omega,by go_num,HBF.out,HST2,HOF⟩
         case measure=>simp [intOf];omega
       |none=>
        rw [hs] at HSP
        have HSP:Hid (Calls Tryz.prog 247 #[.agg #[.int .i64 x.op, .int .i64 x.vk, .int .i64 x.vm, .string x.vs, .string x.nm, .int .i64 x.ar], .slice (vA) a (0)] w5 fun e w'=>e= .returned (.tuple #[(.agg #[.int .i64 0, .int .i64 0, .string ⟨#[]⟩]), .bool false])/\Below w5.heap.size w5 w'):=HSP
        have HS:=qL hs
        clear hs
        go_wp2_with fail
        refine HSP.out.mono ?_
        rintro e w6 ⟨rfl,hb6⟩
        have HB6:=qL (btr HB5.out hb6)
        have k1:=qM hb6 k1
        have k2:=qM hb6 k2
        have k3:=qM hb6 k3
        have k4:=qM hb6 k4
        have k5:=qM hb6 k5
        have k6:=qM hb6 k6
        clear hb6
        have hb7:Below w6.heap.size w6 (w6.alloc (.cells #[.int .i64 0, .int .i64 0, .string ⟨#[]⟩] 46)):=zae _ _
        have HB7:=qL (btr HB6.out hb7)
        have k1:=qM hb7 k1
        have k2:=qM hb7 k2
        have k3:=qM hb7 k3
        have k4:=qM hb7 k4
        have k5:=qM hb7 k5
        have k6:=qM hb7 k6
        have j0:(w6.alloc (.cells #[.int .i64 0, .int .i64 0, .string ⟨#[]⟩] 46)).cell? ⟨w6.heap.size,0,none⟩=some (.int .i64 0):=by simp
        have j1:(w6.alloc (.cells #[.int .i64 0, .int .i64 0, .string ⟨#[]⟩] 46)).cell? ⟨w6.heap.size,1,none⟩=some (.int .i64 0):=by simp
        have j2:(w6.alloc (.cells #[.int .i64 0, .int .i64 0, .string ⟨#[]⟩] 46)).cell? ⟨w6.heap.size,2,none⟩=some (.string ⟨#[]⟩):=by simp
        have jf: ∀ o,(w6.alloc (.cells #[.int .i64 0, .int .i64 0, .string ⟨#[]⟩] 46)).frozen? ⟨w6.heap.size,o,none⟩=false:=fun o=>by simp
        have js:w6.heap.size<(w6.alloc (.cells #[.int .i64 0, .int .i64 0, .string ⟨#[]⟩] 46)).heap.size:=by simp
        have HSZ6:=qL HB6.out.size
        clear hb7
        go_upto_block 4 with fail
        obtain ⟨w7,hw7⟩: ∃ w7,w7=w6.alloc (.cells #[.int .i64 0, .int .i64 0, .string ⟨#[]⟩] 46):=⟨_,rfl⟩
        rw [<-hw7]
        rw [<-hw7] at k1 k2 k3 k4 k5 k6 j0 j1 j2 jf js HB7
        clear hw7
        go_cut [22] from 62 to 106 (fun pv wc=>pv= .pointer (some ⟨w6.heap.size,0,none⟩)/\Below wx.heap.size wx wc/\wc.cell? ⟨w6.heap.size,0,none⟩=some (.int .i64 y.k)/\wc.cell? ⟨w6.heap.size,1,none⟩=some (.int .i64 y.m)/\wc.cell? ⟨w6.heap.size,2,none⟩=some (.string y.s))
        case first=>
         go_wp2_with fail
         refine (HCON.out w7 HB7.out).mono ?_
         rintro e w8 ⟨rfl,hb8⟩
         have HB8:=qL (btr HB7.out hb8)
         have k1:=qM hb8 k1
         have k2:=qM hb8 k2
         have k3:=qM hb8 k3
         have k4:=qM hb8 k4
         have k5:=qM hb8 k5
         have k6:=qM hb8 k6
         have j0:=qM hb8 j0
         have j1:=qM hb8 j1
         have j2:=qM hb8 j2
         have jg: ∀ o,w8.frozen? ⟨w6.heap.size,o,none⟩=false:=fun o=>(Below.frozen hb8 (p:=⟨w6.heap.size,o,none⟩) js).trans (jf o)
         have jt:w6.heap.size<w8.heap.size:=qQ js hb8.size
         clear hb8
         cases hnu:ycb l
         ·have HA2:=qL fun W hb=>HAPL.out h1 HS.out hnu W hb
          have hya:ybm x l=y:=by rw [HY.out,zmg h1 HS.out hnu]
          rw [hya] at HA2
          clear hya hnu h1
          go_wp2_with fail
          refine (HA2.out w8 HB8.out).mono ?_
          rintro e w9 ⟨rfl,hb9⟩
          have HB9:=qL (btr HB8.out hb9)
          have j0:=qM hb9 j0
          have j1:=qM hb9 j1
          have j2:=qM hb9 j2
          have jh: ∀ o,w9.frozen? ⟨w6.heap.size,o,none⟩=false:=fun o=>(Below.frozen hb9 (p:=⟨w6.heap.size,o,none⟩) jt).trans (jg o)
          have ju:w6.heap.size<w9.heap.size:=qQ jt hb9.size
          clear hb9
          go_wp2_with fail
          go_meet
          exact ⟨rfl,((HB9.out.setCell (p:=⟨_,0,none⟩) HSZ6.out _).setCell (p:=⟨_,1,none⟩) HSZ6.out _).setCell (p:=⟨_,2,none⟩) HSZ6.out _,by simp [go_sem,j0,j1,j2],by simp [go_sem,j0,j1,j2],by simp [go_sem,j0,j1,j2]⟩
         ·have hyz:y=zV:=by rw [HY.out,zmi h1 HS.out hnu]
          have HYZ:=qL hyz
          clear hyz hnu h1
          go_wp2_with fail
          go_meet
          exact ⟨rfl,HB8.out,by rw [HYZ.out];exact j0,by rw [HYZ.out];exact j1,by rw [HYZ.out];exact j2⟩
        case rest=>
         obtain ⟨rfl,hbc,c0,c1,c2⟩:=hcut
         have HBC:=qL hbc
         clear hbc
         go_wp2_with fail
         have hrs6:rs<1000000:=by omega
         have hszw:w3.heap.size<=wc.heap.size:=(btr HBX.out HBC.out).size
         go_region_law (refine za3 _ qJ _ _ qJ PV (HOS.out.later (HBC.out.drew.alloc HBC.out.drew.size _)) ⟨_,0,none⟩ y y qJ qJ (by exact zbl _ _ _ _ _) rfl (fun p hp=>by cases hp) hrs6 (qR hszw qH) ?_;intro v' w' hown hgrow hat)
         have HOF:Hid (ownD kVal w' w3.heap.size v' (vs.take rs++ [y]).length (vs.take rs++ [y])):=qL (za2 hown rfl)
         have HBF:Hid (Below w3.heap.size w3 w'):=qL (zaf ((btr HBX.out HBC.out).drew.alloc (btr HBX.out HBC.out).size _) hgrow HV1.out)
         clear hown hgrow hat
         go_wp2
         go_roundw
         case rel=>exact ⟨j+1,_,_,by omega,by go_num,HBF.out,HST2,HOF⟩
         case measure=>simp [intOf];omega
     ·have HRL:Hid (∀ W,Below wx.heap.size wx W->rVal W (vA.map (·.add (rs*3))) a l):=qL fun W hb=>by
       have h:=HSL.out W hb
       rwa [if_neg hck] at h
      clear HSL
      have HSP:=qL (spcX x (vA.map (·.add (rs*3))) a (vC - rs) l w5 (HRL.out _ HB5.out) HLL.out)
      have HAPL:Hid (x.op≠1->yen x l=none->ycb l=false-> ∀ W,Below wx.heap.size wx W->Calls Tryz.prog 249 #[.agg #[.int .i64 x.op, .int .i64 x.vk, .int .i64 x.vm, .string x.vs, .string x.nm, .int .i64 x.ar], .slice (vA.map (·.add (rs*3))) a (vC - rs), .slice zA zN zC] W fun e w'=>e= .returned (.agg #[.int .i64 (ybm x l).k, .int .i64 (ybm x l).m, .string (ybm x l).s])/\Below W.heap.size W w'):=qL fun h1 h2 h3 W hb=>aplX x (vA.map (·.add (rs*3))) zA a (vC - rs) zN zC _ tk l W HXN.out (HRL.out W hb) HLL.out HLS.out HNT.out h3 h1 h2 (HZ.out.later (btr HBXX.out hb))
      have HCON:Hid (∀ W,Below wx.heap.size wx W->Calls Tryz.prog 248 #[.slice (vA.map (·.add (rs*3))) a (vC - rs),(.agg #[.int .i64 0, .int .i64 0, .string ⟨#[]⟩])] W fun e w'=>e= .returned (.bool (ycb l))/\Below W.heap.size W w'):=qL fun W hb=>zkf (vA.map (·.add (rs*3))) a (vC - rs) l W (HRL.out W hb) qF
      by_cases h1:x.op=1
      ·have d1:(x.op==1)=true:=by simp [h1]
       have hs:yen x l=none:=zmy h1
       rw [hs] at HSP
       have HSP:Hid (Calls Tryz.prog 247 #[.agg #[.int .i64 x.op, .int .i64 x.vk, .int .i64 x.vm, .string x.vs, .string x.nm, .int .i64 x.ar], .slice (vA.map (·.add (rs*3))) a (vC - rs)] w5 fun e w'=>e= .returned (.tuple #[(.agg #[.int .i64 0, .int .i64 0, .string ⟨#[]⟩]), .bool false])/\Below w5.heap.size w5 w'):=HSP
       have HEY:Hid (y=yb6 cs r x.nm):=qL (by rw [HY.out,zmh h1])
       have hfn:f x.nm.data.toList=some (.agg #[.int .i64 (y).k, .int .i64 (y).m, .string (y).s]):=by rw [HEY.out];exact HMTF.out.get HRL2.out (HXN.out.col h1)
       have hnm:x.nm.size<=maxLen:=by have:=zly HXX.out.cols (HXN.out.col h1);unfold maxLen;omega
       have HLOOK:Hid (∀ W,Below wx.heap.size wx W->(Instr.lookup 251 (.map (some w2.heap.size)) (.string x.nm) false).run Tryz.prog W= .ok (.agg #[.int .i64 (y).k, .int .i64 (y).m, .string (y).s]) W):=qL fun W hb=>by
        have h:=(HMP.out.later (btr HBX.out hb)).look Tryz.underlying9 Tryz.underlying251 (z:=(.agg #[.int .i64 0, .int .i64 0, .string ⟨#[]⟩])) (Tryz.zeroValue46 _) x.nm hnm
        rw [hfn] at h
        exact h
       clear hs hfn hnm h1
       go_wp2_with fail
       refine HSP.out.mono ?_
       rintro e w6 ⟨rfl,hb6⟩
       have HB6:=qL (btr HB5.out hb6)
       have k1:=qM hb6 k1
       have k2:=qM hb6 k2
       have k3:=qM hb6 k3
       have k4:=qM hb6 k4
       have k5:=qM hb6 k5
       have k6:=qM hb6 k6
       clear hb6
       have hb7:Below w6.heap.size w6 (w6.alloc (.cells #[.int .i64 0, .int .i64 0, .string ⟨#[]⟩] 46)):=zae _ _
       have HB7:=qL (btr HB6.out hb7)
       have k1:=qM hb7 k1
       have k2:=qM hb7 k2
       have k3:=qM hb7 k3
       have k4:=qM hb7 k4
       have k5:=qM hb7 k5
       have k6:=qM hb7 k6
       have j0:(w6.alloc (.cells #[.int .i64 0, .int .i64 0, .string ⟨#[]⟩] 46)).cell? ⟨w6.heap.size,0,none⟩=some (.int .i64 0):=by simp
       have j1:(w6.alloc (.cells #[.int .i64 0, .int .i64 0, .string ⟨#[]⟩] 46)).cell? ⟨w6.heap.size,1,none⟩=some (.int .i64 0):=by simp
       have j2:(w6.alloc (.cells #[.int .i64 0, .int .i64 0, .string ⟨#[]⟩] 46)).cell? ⟨w6.heap.size,2,none⟩=some (.string ⟨#[]⟩):=by simp
       have jf: ∀ o,(w6.alloc (.cells #[.int .i64 0, .int .i64 0, .string ⟨#[]⟩] 46)).frozen? ⟨w6.heap.size,o,none⟩=false:=fun o=>by simp
       have js:w6.heap.size<(w6.alloc (.cells #[.int .i64 0, .int .i64 0, .string ⟨#[]⟩] 46)).heap.size:=by simp
       have HSZ6:=qL HB6.out.size
       clear hb7
       go_upto_block 4 with fail
       obtain ⟨w7,hw7⟩: ∃ w7,w7=w6.alloc (.cells #[.int .i64 0, .int .i64 0, .string ⟨#[]⟩] 46):=⟨_,rfl⟩
       rw [<-hw7]
       rw [<-hw7] at k1 k2 k3 k4 k5 k6 j0 j1 j2 jf js HB7
       clear hw7
       go_cut [22] from 62 to 106 (fun pv wc=>pv= .pointer (some ⟨w6.heap.size,0,none⟩)/\Below wx.heap.size wx wc/\wc.cell? ⟨w6.heap.size,0,none⟩=some (.int .i64 y.k)/\wc.cell? ⟨w6.heap.size,1,none⟩=some (.int .i64 y.m)/\wc.cell? ⟨w6.heap.size,2,none⟩=some (.string y.s))
       case first=>
        have hlk:=HLOOK.out w7 HB7.out
        go_wp2_with fail
        go_meet
        exact ⟨rfl,((HB7.out.setCell (p:=⟨_,0,none⟩) HSZ6.out _).setCell (p:=⟨_,1,none⟩) HSZ6.out _).setCell (p:=⟨_,2,none⟩) HSZ6.out _,by simp [go_sem,j0,j1,j2],by simp [go_sem,j0,j1,j2],by simp [go_sem,j0,j1,j2]⟩
       case rest=>
        obtain ⟨rfl,hbc,c0,c1,c2⟩:=hcut
        have HBC:=qL hbc
        clear hbc
        go_wp2_with fail
        have hrs6:rs<1000000:=by omega
        have hszw:w3.heap.size<=wc.heap.size:=(btr HBX.out HBC.out).size
        go_region_law (refine za3 _ qJ _ _ qJ PV (HOS.out.later (HBC.out.drew.alloc HBC.out.drew.size _)) ⟨_,0,none⟩ y y qJ qJ (by exact zbl _ _ _ _ _) rfl (fun p hp=>by cases hp) hrs6 (qR hszw qH) ?_;intro v' w' hown hgrow hat)
        have HOF:Hid (ownD kVal w' w3.heap.size v' (vs.take rs++ [y]).length (vs.take rs++ [y])):=qL (za2 hown rfl)
        have HBF:Hid (Below w3.heap.size w3 w'):=qL (zaf ((btr HBX.out HBC.out).drew.alloc (btr HBX.out HBC.out).size _) hgrow HV1.out)
        clear hown hgrow hat
        go_wp2
        go_roundw
        case rel=>exact ⟨j+1,_,_,by omega,by go_num,HBF.out,HST2,HOF⟩
        case measure=>simp [intOf];omega
      ·have d1:(x.op==1)=false:=by simp [h1]
       cases hs:yen x l with
       |some v=>
        rw [hs] at HSP
        have HSP:Hid (Calls Tryz.prog 247 #[.agg #[.int .i64 x.op, .int .i64 x.vk, .int .i64 x.vm, .string x.vs, .string x.nm, .int .i64 x.ar], .slice (vA.map (·.add (rs*3))) a (vC - rs)] w5 fun e w'=>e= .returned (.tuple #[.agg #[.int .i64 (v).k, .int .i64 (v).m, .string (v).s], .bool true])/\Below w5.heap.size w5 w'):=HSP
        have hyv:v=y:=by rw [HY.out,zmj h1 hs]
        subst hyv
        clear hs h1 HAPL
        go_wp2_with fail
        refine HSP.out.mono ?_
        rintro e w6 ⟨rfl,hb6⟩
        have HB6:=qL (btr HB5.out hb6)
        have k1:=qM hb6 k1
        have k2:=qM hb6 k2
        have k3:=qM hb6 k3
        have k4:=qM hb6 k4
        have k5:=qM hb6 k5
        have k6:=qM hb6 k6
        clear hb6
        have hb7:Below w6.heap.size w6 (w6.alloc (.cells #[.int .i64 v.k, .int .i64 v.m, .string v.s] 46)):=zae _ _
        have HB7:=qL (btr HB6.out hb7)
        have k1:=qM hb7 k1
        have k2:=qM hb7 k2
        have k3:=qM hb7 k3
        have k4:=qM hb7 k4
        have k5:=qM hb7 k5
        have k6:=qM hb7 k6
        have j0:(w6.alloc (.cells #[.int .i64 v.k, .int .i64 v.m, .string v.s] 46)).cell? ⟨w6.heap.size,0,none⟩=some (.int .i64 v.k):=by simp
        have j1:(w6.alloc (.cells #[.int .i64 v.k, .int .i64 v.m, .string v.s] 46)).cell? ⟨w6.heap.size,1,none⟩=some (.int .i64 v.m):=by simp
        have j2:(w6.alloc (.cells #[.int .i64 v.k, .int .i64 v.m, .string v.s] 46)).cell? ⟨w6.heap.size,2,none⟩=some (.string v.s):=by simp
        have jf: ∀ o,(w6.alloc (.cells #[.int .i64 v.k, .int .i64 v.m, .string v.s] 46)).frozen? ⟨w6.heap.size,o,none⟩=false:=fun o=>by simp
        have js:w6.heap.size<(w6.alloc (.cells #[.int .i64 v.k, .int .i64 v.m, .string v.s] 46)).heap.size:=by simp
        have HSZ6:=qL HB6.out.size
        clear hb7
        go_upto_block 4 with fail
        obtain ⟨w7,hw7⟩: ∃ w7,w7=w6.alloc (.cells #[.int .i64 v.k, .int .i64 v.m, .string v.s] 46):=⟨_,rfl⟩
        rw [<-hw7]
        rw [<-hw7] at k1 k2 k3 k4 k5 k6 j0 j1 j2 jf js HB7
        clear hw7
        go_cut [22] from 62 to 106 (fun pv wc=>pv= .pointer (some ⟨w6.heap.size,0,none⟩)/\Below wx.heap.size wx wc/\wc.cell? ⟨w6.heap.size,0,none⟩=some (.int .i64 v.k)/\wc.cell? ⟨w6.heap.size,1,none⟩=some (.int .i64 v.m)/\wc.cell? ⟨w6.heap.size,2,none⟩=some (.string v.s))
        case first=>
         go_wp2_with fail
         go_meet
         exact ⟨rfl,HB7.out,j0,j1,j2⟩
        case rest=>
         obtain ⟨rfl,hbc,c0,c1,c2⟩:=hcut
         have HBC:=qL hbc
         clear hbc
         go_wp2_with fail
         have hrs6:rs<1000000:=by omega
         have hszw:w3.heap.size<=wc.heap.size:=(btr HBX.out HBC.out).size
         go_region_law (refine za3 _ qJ _ _ qJ PV (HOS.out.later (HBC.out.drew.alloc HBC.out.drew.size _)) ⟨_,0,none⟩ v v qJ qJ (by exact zbl _ _ _ _ _) rfl (fun p hp=>by cases hp) hrs6 (qR hszw qH) ?_;intro v' w' hown hgrow hat)
         have HOF:Hid (ownD kVal w' w3.heap.size v' (vs.take rs++ [v]).length (vs.take rs++ [v])):=qL (za2 hown rfl)
         have HBF:Hid (Below w3.heap.size w3 w'):=qL (zaf ((btr HBX.out HBC.out).drew.alloc (btr HBX.out HBC.out).size _) hgrow HV1.out)
         clear hown hgrow hat
         go_wp2
         go_roundw
         case rel=>exact ⟨j+1,_,_,by omega,by go_num,HBF.out,HST2,HOF⟩
         case measure=>simp [intOf];omega
       |none=>
        rw [hs] at HSP
        have HSP:Hid (Calls Tryz.prog 247 #[.agg #[.int .i64 x.op, .int .i64 x.vk, .int .i64 x.vm, .string x.vs, .string x.nm, .int .i64 x.ar], .slice (vA.map (·.add (rs*3))) a (vC - rs)] w5 fun e w'=>e= .returned (.tuple #[(.agg #[.int .i64 0, .int .i64 0, .string ⟨#[]⟩]), .bool false])/\Below w5.heap.size w5 w'):=HSP
        have HS:=qL hs
        clear hs
        go_wp2_with fail
        refine HSP.out.mono ?_
        rintro e w6 ⟨rfl,hb6⟩
        have HB6:=qL (btr HB5.out hb6)
        have k1:=qM hb6 k1
        have k2:=qM hb6 k2
        have k3:=qM hb6 k3
        have k4:=qM hb6 k4
        have k5:=qM hb6 k5
        have k6:=qM hb6 k6
        clear hb6
        have hb7:Below w6.heap.size w6 (w6.alloc (.cells #[.int .i64 0, .int .i64 0, .string ⟨#[]⟩] 46)):=zae _ _
        have HB7:=qL (btr HB6.out hb7)
        have k1:=qM hb7 k1
        have k2:=qM hb7 k2
        have k3:=qM hb7 k3
        have k4:=qM hb7 k4
        have k5:=qM hb7 k5
        have k6:=qM hb7 k6
        have j0:(w6.alloc (.cells #[.int .i64 0, .int .i64 0, .string ⟨#[]⟩] 46)).cell? ⟨w6.heap.size,0,none⟩=some (.int .i64 0):=by simp
        have j1:(w6.alloc (.cells #[.int .i64 0, .int .i64 0, .string ⟨#[]⟩] 46)).cell? ⟨w6.heap.size,1,none⟩=some (.int .i64 0):=by simp
        have j2:(w6.alloc (.cells #[.int .i64 0, .int .i64 0, .string ⟨#[]⟩] 46)).cell? ⟨w6.heap.size,2,none⟩=some (.string ⟨#[]⟩):=by simp
        have jf: ∀ o,(w6.alloc (.cells #[.int .i64 0, .int .i64 0, .string ⟨#[]⟩] 46)).frozen? ⟨w6.heap.size,o,none⟩=false:=fun o=>by simp
        have js:w6.heap.size<(w6.alloc (.cells #[.int .i64 0, .int .i64 0, .string ⟨#[]⟩] 46)).heap.size:=by simp
        have HSZ6:=qL HB6.out.size
        clear hb7
        go_upto_block 4 with fail
        obtain ⟨w7,hw7⟩: ∃ w7,w7=w6.alloc (.cells #[.int .i64 0, .int .i64 0, .string ⟨#[]⟩] 46):=⟨_,rfl⟩
        rw [<-hw7]
        rw [<-hw7] at k1 k2 k3 k4 k5 k6 j0 j1 j2 jf js HB7
        clear hw7
        go_cut [22] from 62 to 106 (fun pv wc=>pv= .pointer (some ⟨w6.heap.size,0,none⟩)/\Below wx.heap.size wx wc/\wc.cell? ⟨w6.heap.size,0,none⟩=some (.int .i64 y.k)/\wc.cell? ⟨w6.heap.size,1,none⟩=some (.int .i64 y.m)/\wc.cell? ⟨w6.heap.size,2,none⟩=some (.string y.s))
        case first=>
         go_wp2_with fail
         refine (HCON.out w7 HB7.out).mono ?_
         rintro e w8 ⟨rfl,hb8⟩
         have HB8:=qL (btr HB7.out hb8)
         have k1:=qM hb8 k1
         have k2:=qM hb8 k2
         have k3:=qM hb8 k3
         have k4:=qM hb8 k4
         have k5:=qM hb8 k5
         have k6:=qM hb8 k6
         have j0:=qM hb8 j0
         have j1:=qM hb8 j1
         have j2:=qM hb8 j2
         have jg: ∀ o,w8.frozen? ⟨w6.heap.size,o,none⟩=false:=fun o=>(Below.frozen hb8 (p:=⟨w6.heap.size,o,none⟩) js).trans (jf o)
         have jt:w6.heap.size<w8.heap.size:=qQ js hb8.size
         clear hb8
         cases hnu:ycb l
         ·have HA2:=qL fun W hb=>HAPL.out h1 HS.out hnu W hb
          have hya:ybm x l=y:=by rw [HY.out,zmg h1 HS.out hnu]
          rw [hya] at HA2
          clear hya hnu h1
          go_wp2_with fail
          refine (HA2.out w8 HB8.out).mono ?_
          rintro e w9 ⟨rfl,hb9⟩
          have HB9:=qL (btr HB8.out hb9)
          have j0:=qM hb9 j0
          have j1:=qM hb9 j1
          have j2:=qM hb9 j2
          have jh: ∀ o,w9.frozen? ⟨w6.heap.size,o,none⟩=false:=fun o=>(Below.frozen hb9 (p:=⟨w6.heap.size,o,none⟩) jt).trans (jg o)
          have ju:w6.heap.size<w9.heap.size:=qQ jt hb9.size
          clear hb9
          go_wp2_with fail
          go_meet
          exact ⟨rfl,((HB9.out.setCell (p:=⟨_,0,none⟩) HSZ6.out _).setCell (p:=⟨_,1,none⟩) HSZ6.out _).setCell (p:=⟨_,2,none⟩) HSZ6.out _,by simp [go_sem,j0,j1,j2],by simp [go_sem,j0,j1,j2],by simp [go_sem,j0,j1,j2]⟩
         ·have hyz:y=zV:=by rw [HY.out,zmi h1 HS.out hnu]
          have HYZ:=qL hyz
          clear hyz hnu h1
          go_wp2_with fail
          go_meet
          exact ⟨rfl,HB8.out,by rw [HYZ.out];exact j0,by rw [HYZ.out];exact j1,by rw [HYZ.out];exact j2⟩
        case rest=>
         obtain ⟨rfl,hbc,c0,c1,c2⟩:=hcut
         have HBC:=qL hbc
         clear hbc
         go_wp2_with fail
         have hrs6:rs<1000000:=by omega
         have hszw:w3.heap.size<=wc.heap.size:=(btr HBX.out HBC.out).size
         go_region_law (refine za3 _ qJ _ _ qJ PV (HOS.out.later (HBC.out.drew.alloc HBC.out.drew.size _)) ⟨_,0,none⟩ y y qJ qJ (by exact zbl _ _ _ _ _) rfl (fun p hp=>by cases hp) hrs6 (qR hszw qH) ?_;intro v' w' hown hgrow hat)
         have HOF:Hid (ownD kVal w' w3.heap.size v' (vs.take rs++ [y]).length (vs.take rs++ [y])):=qL (za2 hown rfl)
         have HBF:Hid (Below w3.heap.size w3 w'):=qL (zaf ((btr HBX.out HBC.out).drew.alloc (btr HBX.out HBC.out).size _) hgrow HV1.out)
         clear hown hgrow hat
         go_wp2
         go_roundw
         case rel=>exact ⟨j+1,_,_,by omega,by go_num,HBF.out,HST2,HOF⟩
         case measure=>simp [intOf];omega
    ·obtain rfl:j=n:=by omega
     have hst:vs= [ycg cs r p]:=by
      have h1:=HST.out.2.2
      rw [List.take_of_length_le (by have:=HL.out;omega),ykp HXX.out.blk] at h1
      exact h1
     obtain ⟨y,hy⟩: ∃ y,y=ycg cs r p:=⟨_,rfl⟩
     rw [<-hy] at hst
     subst hst
     have HY:=qL hy
     obtain ⟨b,off,e4,hc4⟩:=(zb4.1 hrd).opn qH
     cases e4
     obtain ⟨c0,c1,c2⟩:=hc4 0 y rfl
     simp only [Nat.zero_mul,Nat.add_zero] at c0 c1 c2
     have z0:=qM hbx z0;have z1:=qM hbx z1;have z2:=qM hbx z2;have zf: ∀ o,wx.frozen? ⟨w.heap.size,o,none⟩=false:=(fun o=>(Below.frozen hbx (p:=⟨w.heap.size,o,none⟩) zs).trans (zf o));have zs:w.heap.size<wx.heap.size:=qQ zs (Below.size hbx)
     clear hc4 hrd hy
     go_wp2
     exact bodyPost_ret (v:= .tuple #[.agg #[.int .i64 (y).k, .int .i64 (y).m, .string (y).s], .int .i64 0]) (by simp [results,Tryz.results205,go_sem,z0,z1,z2]) rfl ⟨by rw [HY.out],(((Below.setCell (HBXX.out) (p:=⟨_,0,none⟩) qE _).setCell (p:=⟨_,1,none⟩) qE _).setCell (p:=⟨_,2,none⟩) qE _)⟩
end Go.Proofs.YthcalfeoejdcgaaGreatDoor
