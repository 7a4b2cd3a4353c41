import Derived.Test.YthcalfeoejdcgaaGreatDoorK10
import Derived.KernelRfl
import Derived.Shelf.SlSortCmp.Whole1
import Derived.Shelf.SlSortCmp.NoneTotal
import Derived.Ground.SlsfProg
import Derived.Lib.AppendStr
import Derived.Laws.IdiomStrings
import Derived.Deep.RegionLaw
namespace Go.Proofs.YthcalfeoejdcgaaGreatDoor
set_option linter.unusedSimpArgs false
set_option linter.unusedVariables false
set_option maxRecDepth 100000
set_option maxHeartbeats 20000000
section
section
open Go.BigFrame Go.RowKit
def ye3 :Kin Nod Nod where
 enc:=yaz
 C:=6
 e:=48
 ptrs:=fun _=> []
 D:=fun _ a b=>a=b
 len:=zey
 pos:=by omega
 one:=ykg
 later:=fun h _=>h
 kept:=fun h _ _=>h
 lt:=fun _ p hp=>by cases hp
theorem ymu {w:World}{A:Option Addr}{n:Nat}{l:List Nod}:rD ye3 w A n l↔rNod w A n l:=
 ⟨fun ⟨es,h1,h2⟩=>by have e:es=l:=zdz h2;subst e;exact h1,fun h=>⟨l,h,zbg l⟩⟩
theorem yym :(Tryz.prog.info? 48).map (fun i=>(i.zero,i.size,i.bytes))=some (some (.agg #[.int .i64 0, .int .i64 0, .int .i64 0, .string ⟨#[]⟩, .string ⟨#[]⟩, .int .i64 0]),6,64):=by kernel_rfl
theorem pNod : ∃ i,KinP Tryz.prog ye3 25 i (.agg #[.int .i64 0, .int .i64 0, .int .i64 0, .string ⟨#[]⟩, .string ⟨#[]⟩, .int .i64 0]) 64:=by
 obtain ⟨i0,hi,hz0,hz1,hz2⟩:=info_parts yym
 exact ⟨i0,⟨Tryz.underlying25,hi,hz0,hz1,hz2,rfl,by omega⟩⟩
def kExp :Kin (Option Addr × Nat × Nat) (List Nod) where
 enc:=yah
 C:=1
 e:=25
 ptrs:=fun a=> [(a.1,a.2.1)]
 D:=fun w a r=>rNod w a.1 a.2.1 r
 len:=fun _=>rfl
 pos:=by omega
 one:=fun x u hu=>by simp [yah] at hu;subst hu;rfl
 later:=fun h hb=>rNod.later h hb
 kept:=fun {w w' row a b} h hg hf=>Fl.kept h hg fun h0 ad e=>hf _ (List.mem_cons_self ..) h0 ad e
 lt:=fun {w a b} h p hp h0 ad e=>by
  simp at hp
  subst hp
  obtain ⟨b',off,e',hl⟩:=Fl.lt h qF h0
  rw [e] at e'
  cases e'
  exact hl
theorem zpv (w:World)(op vk vm:Int)(vs nm:ByteArray)(ar:Int):ownD ye3 (w.alloc (.cells #[.int .i64 op, .int .i64 vk, .int .i64 vm, .string vs, .string nm, .int .i64 ar] 48)) w.heap.size (.slice (some ⟨w.heap.size,0,none⟩) 1 1) 1 [⟨op,vk,vm,vs,nm,ar⟩]:=
 ⟨[⟨op,vk,vm,vs,nm,ar⟩],World.ownsRow_lit (e:=48) (size:=6) (base:=w.heap.size) w #[.int .i64 op, .int .i64 vk, .int .i64 vm, .string vs, .string nm, .int .i64 ar] 1 (qV _) (by decide) rfl,⟨rfl,trivial⟩,fun a _ p hp=>by cases hp⟩
def OneR (x:Nod)(w:World)(e:Ending)(w':World):Prop:= ∃ v,e= .returned v/\ownD ye3 w' w.heap.size v 1 [x]/\Below w.heap.size w w'
theorem zl1 (k m:Int)(s:ByteArray)(w:World):Calls Tryz.prog 46 #[.agg #[.int .i64 k, .int .i64 m, .string s]] w (OneR ⟨0,k,m,s,⟨#[]⟩,0⟩ w):=by
 go_enter Tryz.func46,Tryz.ntmps46
 go_wp2
 go_ret
 exact ⟨_,rfl,by simpa using (zpv (w.alloc (.cells #[.int .i64 k, .int .i64 m, .string s] 46)) 0 k m s ⟨#[]⟩ 0).mono (zae w (.cells #[.int .i64 k, .int .i64 m, .string s] 46)).size,(zae _ _).alloc qH _⟩
def ycn (cs:List Col)(kind:Int)(N:Nat)(w:World)(e:Ending)(w':World):Prop:= ∃ v n p,e= .returned v/\ownD ye3 w' w.heap.size v n p/\okE cs kind N p/\Below w.heap.size w w'
theorem zia {cs:List Col}{kind:Int}{v:Val}(h:yab v=true)(hk:v.k=kind∨v.k=0):okE cs kind 1 [⟨0,v.k,v.m,v.s,⟨#[]⟩,0⟩]:=by
 refine ⟨by simp,fun n hn=>?_,⟨v.k,v.k==0⟩,hk,blk0 rfl rfl⟩
 rw [List.mem_singleton] at hn
 subst hn
 exact ⟨rfl,by simp,by simp,fun _=>⟨rfl,h⟩,fun h=>absurd rfl h,fun h=>(by simp at h),fun h=>(by simp at h),fun h=>absurd rfl h⟩
theorem yo4 {cs:List Col}(hc:okCols cs){j:Nat}{c:Col}(hj:cs[j]?=some c):okE cs c.k 1 [⟨1,0,0,⟨#[]⟩,c.nm,0⟩]:=by
 have hi:=(hc.2.2 j c hj).2.2.2
 have hat:yb4 cs c.nm=c:=by
  unfold yb4
  rw [hi,Int.toNat_natCast,List.getD_eq_getElem?_getD,hj];rfl
 refine ⟨by simp,fun n hn=>?_,⟨c.k,c.nl⟩, .inl rfl,blk0 rfl ?_⟩
 ·rw [List.mem_singleton] at hn
  subst hn
  exact ⟨rfl,by simp,by simp,fun h=>(by simp at h),fun _=>⟨rfl,rfl,rfl⟩,fun _=>by show 0<=yao cs c.nm;rw [hi];omega,fun h=>(by simp at h),fun _ h=>absurd rfl h⟩
 ·show (if yao cs c.nm<0 then none else some (⟨(yb4 cs c.nm).k,(yb4 cs c.nm).nl⟩:Knd))=_
  rw [if_neg (by rw [hi];omega),hat]
theorem yoo (kind:Int)(A:Option Addr)(n c:Nat)(cs:List Col)(q:Int)(w:World)(h:rCol w A n cs)(hc:okCols cs)(h1:1<=kind)(h4:kind<=4)(hq:0<=q)(hq1:q<=200000):Calls Tryz.prog 26 #[.int .i64 kind, .slice A n c, .int .i64 q] w (ycn cs kind 1 w):=by
 have HC:=qL h
 have HL:=qL h.len
 have HK:=qL hc
 have hn1:1<=n/\n<=12:=by have:=h.len;have:=hc.1;have:=hc.2.1;omega
 clear h hc
 cases hz:decide (0<q % 4)
 ·have HZ:=qL hz
  have hz2: ¬ 0<q % 4:=by simpa using hz
  have HZ2:=qL hz2
  clear hz2
  go_enter Tryz.func26,Tryz.ntmps26
  go_wp2
  go_loopw [7] (fun i wr=>i= .int .i64 0/\Below w.heap.size w wr) (fun _ _=>0)
  case atStart=>exact ⟨rfl,za0 _⟩
  case round=>
   obtain ⟨rfl,hbw⟩:=hrel
   have d0:decide ((0:Int)<(n:Int))=true:=decide_eq_true qF
   cases hz16:(q % 16==0)
   ·have HB0:=qL hbw
    go_wp2_with fail
    refine (zqq kind (q / 16) _ h1 h4).mono ?_
    rintro e w5 ⟨m,s,rfl,hval,hb5⟩
    have HVAL:=qL hval
    have HB5:=qL (btr HB0.out hb5)
    clear hval hb5
    go_wp2_with fail
    refine (zl1 kind m s _).mono ?_
    rintro e w6 ⟨v,rfl,hown,hb6⟩
    have HO:=qL (hown.mono HB5.out.size)
    have HB6:=qL (btr HB5.out hb6)
    clear hown hb6
    go_wp2
    go_ret
    exact ⟨v,1,_,rfl,HO.out,zia (v:=⟨kind,m,s⟩) HVAL.out (.inl rfl),HB6.out⟩
   ·have HB0:=qL hbw
    go_wp2_with fail
    refine (zl1 0 0 ⟨#[]⟩ _).mono ?_
    rintro e w6 ⟨v,rfl,hown,hb6⟩
    have HO:=qL (hown.mono HB0.out.size)
    have HB6:=qL (btr HB0.out hb6)
    clear hown hb6
    go_wp2
    go_ret
    exact ⟨v,1,_,rfl,HO.out,zia (v:=zV) zes (.inr rfl),HB6.out⟩
 ·have HZ:=qL hz
  have hz2:0<q % 4:=by simpa using hz
  have HZ2:=qL hz2
  clear hz2
  go_enter Tryz.func26,Tryz.ntmps26
  go_wp2
  go_loopw [7] (fun i wr=> ∃ k:Nat,k<=n/\i= .int .i64 k/\Below w.heap.size w wr) (fun i _=>n - (intOf i).toNat)
  case atStart=>exact ⟨0,by omega,rfl,za0 _⟩
  case round=>
   obtain ⟨k,hk,rfl,hbw⟩:=hrel
   by_cases hlt:k<n
   ·obtain ⟨b1,o1,rfl,hc1⟩:=HC.out.opn qF
    have r0:0<=(q / 4+(k:Int)) % (n:Int):=Int.emod_nonneg _ qF
    have r1:(q / 4+(k:Int)) % (n:Int)<n:=Int.emod_lt_of_pos _ qF
    have t1:(q / 4+(k:Int)).tmod (n:Int)=(q / 4+(k:Int)) % (n:Int):=Int.tmod_eq_emod_of_nonneg qF
    have hw:IntKind.i64.wrap (q / 4+(k:Int))=q / 4+(k:Int):=by rw [IntKind.wrap_i64];omega
    have hne: ¬ (n:Int)=0:=by omega
    obtain ⟨j,hj⟩: ∃ j:Nat,(q / 4+(k:Int)) % (n:Int)=j:=⟨((q / 4+(k:Int)) % (n:Int)).toNat,by omega⟩
    rw [hj] at t1 r1
    obtain ⟨cl,hcl⟩:=zah (l:=cs) (k:=j) (by have:=HL.out;omega)
    obtain ⟨x1,x2,x3⟩:=hc1 j cl hcl
    have HCL:=qL hcl
    have z1:=qM hbw x1
    have z2:=qM hbw x2
    have z3:=qM hbw x3
    have HB0:=qL hbw
    clear hc1 hcl x1 x2 x3 r0 hj hbw
    cases hkk:(cl.k==kind)
    ·go_wp2
     go_roundw
     case rel=>exact ⟨k+1,by omega,by go_num,HB0.out.alloc HB0.out.size _⟩
     case measure=>simp [intOf];omega
    ·have HKK:Hid (cl.k=kind):=qL (by simpa using hkk)
     go_wp2
     go_ret
     refine ⟨_,1,[⟨1,0,0,⟨#[]⟩,cl.nm,0⟩],rfl,?_,?_,(HB0.out.alloc HB0.out.size _).alloc (HB0.out.alloc HB0.out.size _).size _⟩
     ·have h:=(zpv (wr.alloc (.cells #[.string cl.nm, .int .i64 cl.k, .bool cl.nl] 56)) 1 0 0 ⟨#[]⟩ cl.nm 0).mono (HB0.out.alloc HB0.out.size (.cells #[.string cl.nm, .int .i64 cl.k, .bool cl.nl] 56)).size
      simpa using h
     ·rw [<-HKK.out]
      exact yo4 HK.out HCL.out
   ·obtain rfl:k=n:=by omega
    cases hz16:(q % 16==0)
    ·have HB0:=qL hbw
     go_wp2_with fail
     refine (zqq kind (q / 16) _ h1 h4).mono ?_
     rintro e w5 ⟨m,s,rfl,hval,hb5⟩
     have HVAL:=qL hval
     have HB5:=qL (btr HB0.out hb5)
     clear hval hb5
     go_wp2_with fail
     refine (zl1 kind m s _).mono ?_
     rintro e w6 ⟨v,rfl,hown,hb6⟩
     have HO:=qL (hown.mono HB5.out.size)
     have HB6:=qL (btr HB5.out hb6)
     clear hown hb6
     go_wp2
     go_ret
     exact ⟨v,1,_,rfl,HO.out,zia (v:=⟨kind,m,s⟩) HVAL.out (.inl rfl),HB6.out⟩
    ·have HB0:=qL hbw
     go_wp2_with fail
     refine (zl1 0 0 ⟨#[]⟩ _).mono ?_
     rintro e w6 ⟨v,rfl,hown,hb6⟩
     have HO:=qL (hown.mono HB0.out.size)
     have HB6:=qL (btr HB0.out hb6)
     clear hown hb6
     go_wp2
     go_ret
     exact ⟨v,1,_,rfl,HO.out,zia (v:=zV) zes (.inr rfl),HB6.out⟩
def ya1 (ls:List (List Nod)):List Nod:=ls.flatMap id
theorem znf {ls:List (List Nod)}{k:Nat}{r:List Nod}(h:ls[k]?=some r):ya1 (ls.take (k+1))=ya1 (ls.take k)++r:=by
 unfold ya1
 rw [zbc h,List.flatMap_append]
 simp
theorem zi0 : ∀ {ls:List (List Nod)} (_: ∀ r∈ls,r.length<=100),(ya1 ls).length<=ls.length*100
 | [],_=>by simp [ya1]
 |r::ls,h=>by
  have h1:=h r (List.mem_cons_self ..)
  have ih:=zi0 fun x hx=>h x (qW _ hx)
  have e:ya1 (r::ls)=r++ya1 ls:=rfl
  rw [e,List.length_append,List.length_cons]
  omega
def opN (op:Int):Nod:=⟨op,0,0,⟨#[]⟩,⟨#[]⟩,0⟩
theorem yhc (op:Int)(A:Option Addr)(n c:Nat)(ls:List (List Nod))(w:World)(h:rD kExp w A n ls)(hn:n<=100)(h100: ∀ r∈ls,r.length<=100):Calls Tryz.prog 27 #[.int .i64 op, .slice A n c] w fun e w'=> ∃ v m,e= .returned v/\ownD ye3 w' w.heap.size v m (ya1 ls++ [opN op])/\Below w.heap.size w w':=by
 obtain ⟨iN,PN⟩:=pNod
 have H:=qL h
 have HL:=qL h.len
 have H100:=qL h100
 clear h h100
 go_enter Tryz.func27,Tryz.ntmps27
 go_wp2
 go_loopw [5,6] (fun v i wx=> ∃ j:Nat,j<=n/\i= .int .i64 j/\Below w.heap.size w wx/\Hid (ownD ye3 wx w.heap.size v (ya1 (ls.take j)).length (ya1 (ls.take j)))) (fun _ i _=>n - (intOf i).toNat)
 case atStart=>exact ⟨0,by omega,rfl,za0 _,qL (ownD.nil _ _)⟩
 case round=>
  obtain ⟨j,hj,rfl,hbx,HO⟩:=hrel
  obtain ⟨wx,rfl⟩: ∃ wx,wx=wr:=⟨_,rfl⟩
  have HBX:=qL hbx
  have hsm:(ya1 (ls.take j)).length<=10000:=by
   have h1:=zi0 (ls:=ls.take j) fun r hr=>H100.out r (List.mem_of_mem_take hr)
   have h2:=List.length_take (i:=j) (l:=ls)
   omega
  have hsz:=hbx.size
  have HV0:Hid (∀ y,u5.ownBlock=some y->w.heap.size<=y):=qL fun y e=>(HO.out.lt y e).1
  by_cases hjl:j<n
  ·obtain ⟨b1,o1,rfl,hc1⟩:=H.out.opn qF
   obtain ⟨r,hr⟩:=zah (l:=ls) (k:=j) (by have:=HL.out;omega)
   obtain ⟨⟨rA,rN,rC⟩,x3,hcell⟩:=hc1 j r hr
   have x1:=hcell 0 (.slice rA rN rC) (by show 0<1;omega) rfl
   have x1:=qM hbx (show w.cell? ⟨b1,o1+j,none⟩=some (.slice rA rN rC) by rw [show o1+j=o1+j*kExp.C+0 by show o1+j=o1+j*1+0;omega];exact x1)
   have HF:Hid (rNod wx rA rN r):=qL ((show rNod _ rA rN r from x3).later hbx)
   have HS:Hid (ya1 (ls.take (j+1))=ya1 (ls.take j)++r):=qL (znf hr)
   have hr12:=H100.out r (qP hr)
   have hrl:=HF.out.len
   have hnn:(ya1 (ls.take j)).length+rN<1000000:=by omega
   clear hc1 hr x3 hcell hbx hrl hr12 hsm
   go_wp2_with (at_builtin;refine zc1 _ rfl _ _ rfl PN HO.out HF.out (zbg _) rfl rfl hnn hsz (fun a h p hp=>by cases hp) ?_;intro v1 w1 hown hg hat)
   have HOF:Hid (ownD ye3 w1 w.heap.size v1 (ya1 (ls.take (j+1))).length (ya1 (ls.take (j+1)))):=qL (za2 hown HS.out)
   have HBF:=qL (zaf HBX.out hg HV0.out)
   clear hown hg hat
   go_wp2
   go_roundw
   case rel=>exact ⟨j+1,by omega,by go_num,HBF.out,HOF⟩
   case measure=>simp [intOf];omega
  ·obtain rfl:j=n:=by omega
   have HTT:Hid (ls.take j=ls):=qL (List.take_of_length_le (by have:=HL.out;omega))
   have HOZ:=qL (HO.out.later (zae wx (.cells #[.int .i64 op, .int .i64 0, .int .i64 0, .string ⟨#[]⟩, .string ⟨#[]⟩, .int .i64 0] 48)))
   have hsm2:(ya1 (ls.take j)).length<1000000:=by omega
   have hsz2:w.heap.size<=(wx.alloc (.cells #[.int .i64 op, .int .i64 0, .int .i64 0, .string ⟨#[]⟩, .string ⟨#[]⟩, .int .i64 0] 48)).heap.size:=qR hsz (zae _ _).size
   clear hbx hsm
   go_wp2_with (at_builtin;refine zaq _ rfl _ _ rfl PN HOZ.out ⟨_,0,none⟩ (opN op) (opN op) rfl rfl (zem _ _ _ _ _ _ _ _) rfl (fun p hp=>by cases hp) hsm2 hsz2 ?_;intro v1 w1 hown hg hat)
   have HBF:=qL (zaf (HBX.out.alloc HBX.out.size _) hg HV0.out)
   have HOF:Hid (ownD ye3 w1 w.heap.size v1 ((ya1 (ls.take j)).length+1) (ya1 ls++ [opN op])):=qL (by have h:=hown;rw [HTT.out] at h;rw [HTT.out];exact h)
   clear hown hg hat
   go_wp2
   go_ret
   exact ⟨v1,_,rfl,HOF.out,HBF.out⟩
def s64 :ASt:=⟨.leaf,64,[]⟩
def ye4 :Ev:=fun _ _ _=>False
theorem zp8 (w:World):Sim ye4 (fun i=>i<64) (fun i=>ya8 i 0 0 0) s64 w:=by
 have hg: ∀ i o,s64.heap.get i=some o->False:=fun i o h=>by
  have h:(Tr.leaf:Tr AObj).get i=some o:=h
  rw [Tr.get_leaf] at h;cases h
 exact ⟨fun i o h=>(hg i o h).elim,fun i h=>h,fun i o h=>(hg i o h).elim,fun i o h=>(hg i o h).elim,fun i j o o' h=>(hg i o h).elim,fun g h=>h,fun g _=>⟨rfl,rfl⟩,fun i k ob h=>by cases h⟩
theorem zgy {n f:Nat}{x:ByteArray}(h:isT ((xR n).call f [.string x] s64)=true)(w:World):Calls Tryz.prog f #[.string x] w fun e w'=>e= .returned (.bool true)/\Below w.heap.size w w':=by
 unfold isT at h
 split at h
 ·rename_i s1 hc
  refine (zir ye4 n f _ _ _ _ hc _ _ w [.string x] (zp8 w) (.cons _ _ _ _ (.flat _ rfl) .nil)).mono ?_
  rintro e w' ⟨v',ρ',D',rfl,h1,h2,h3⟩
  obtain rfl:=zat h1 rfl
  exact ⟨rfl,zb1 (fun b o h=>by
   have h:(Tr.leaf:Tr AObj).get b=some o:=h
   rw [Tr.get_leaf] at h;cases h) rfl h3⟩
 ·cases h
theorem yyv : ∀ x∈knownN,isT ((xR 100).call 78 [.string x] s64)=true/\isT ((xR 100).call 50 [.string x] s64)=true:=fun x hx=>by
 have:=List.all_eq_true.1 (show (knownN.all fun x=>isT ((xR 100).call 78 [.string x] s64)&&isT ((xR 100).call 50 [.string x] s64))=true by kernel_rfl) x hx
 rwa [Bool.and_eq_true] at this
theorem Ycr : ∀ z∈zoneL,isT ((xR 100).call 79 [.string z.1] s64)=true/\isT ((xR 100).call 147 [.string z.1] s64)=true:=fun x hx=>by
 have:=List.all_eq_true.1 (show (zoneL.all fun z=>isT ((xR 100).call 79 [.string z.1] s64)&&isT ((xR 100).call 147 [.string z.1] s64))=true by kernel_rfl) x hx
 rwa [Bool.and_eq_true] at this
def dZn (w:World)(z:Zon)(y:ByteArray × Int × List Shf):Prop:=z.nm=y.1/\z.off=y.2.1/\rShf w z.shA z.shN y.2.2
def rZns (w:World)(A:Option Addr)(n:Nat):Prop:= ∃ zs,rZon w A n zs/\dAll (dZn w) zs zoneL
theorem rZns.later {w w':World}{A:Option Addr}{n:Nat}(h:rZns w A n)(hb:Below w.heap.size w w'):rZns w' A n:=by
 obtain ⟨zs,h1,h2⟩:=h
 exact ⟨zs,h1.later hb,h2.imp fun _ _ h=>⟨h.1,h.2.1,h.2.2.later hb⟩⟩
theorem rZns.len {w:World}{A:Option Addr}{n:Nat}(h:rZns w A n):n=3:=by
 obtain ⟨zs,h1,h2⟩:=h
 rw [<-h1.len,h2.len];rfl
theorem zfr : ∀ y∈zoneL,yga y.2.2/\y.2.2.length<=64/\ -840<=y.2.1/\y.2.1<=840:=fun y hy=>by
 simp only [zoneL,List.mem_cons,List.not_mem_nil,or_false] at hy
 rcases hy with rfl|rfl|rfl
 ·exact ⟨⟨fun s h=>(by cases h),fun j a b h=>(by simp at h)⟩,by decide,by decide,by decide⟩
 ·refine ⟨⟨fun s h=>?_,fun j a b h h2=>?_⟩,by decide,by decide,by decide⟩
  ·simp only [List.mem_cons,List.not_mem_nil,or_false] at h
   rcases h with rfl|rfl<;>decide
  ·match j,h,h2 with
   |0,h,h2=>
    simp at h h2
    subst h;subst h2;decide
   |1,h,h2=>simp at h2
 ·refine ⟨⟨fun s h=>?_,fun j a b h h2=>?_⟩,by decide,by decide,by decide⟩
  ·simp only [List.mem_cons,List.not_mem_nil,or_false] at h
   subst h;decide
  ·match j,h,h2 with
   |0,h,h2=>simp at h2
   |n+1,h,h2=>simp at h2
theorem zhd {w:World}{b C n:Nat}{xs:List Value}{e:TypeId}(hn:xs.length=n*C)(h:w.heap[b]?=some (.cells xs.toArray e (0,0))):Fl w C (some ⟨b,0,none⟩) n xs:=by
 refine za7 hn fun j u hu=>?_
 rw [World.cell?,h]
 simpa using hu
theorem Yct (w:World):Calls Tryz.prog 12 #[] w fun e w'=> ∃ A,e= .returned (.slice A 3 3)/\rZns w' A 3/\Below w.heap.size w w':=by
 go_enter Tryz.func12,Tryz.ntmps12
 go_wp2
 go_ret
 refine ⟨_,rfl,⟨[⟨⟨#[122,48]⟩,60,none,0,0⟩,⟨⟨#[122,49]⟩,-300,some ⟨w.heap.size,0,none⟩,2,2⟩,⟨⟨#[122,50]⟩,120,some ⟨w.heap.size+1,0,none⟩,1,1⟩],?_,?_⟩,((zae _ _).alloc qH _).alloc (by simp;omega) _⟩
 ·exact zhd rfl (zb7 qH)
 ·refine ⟨⟨rfl,rfl,rShf.nil _ _⟩,⟨rfl,rfl,?_⟩,⟨rfl,rfl,?_⟩,trivial⟩
  ·refine zhd (xs:=flat yeg [⟨145000,-240⟩,⟨147000,-300⟩]) (e:=88) rfl ?_
   rw [Below.heap_alloc _ _ _ (by simp;omega),Below.heap_alloc _ _ _ qH]
   exact zb7 qH
  ·refine zhd (xs:=flat yeg [⟨145450,0⟩]) (e:=88) rfl ?_
   rw [Below.heap_alloc _ _ _ qH]
   exact zb7 qH
end
end
section
section
open Go.RowKit
theorem znd (q:List Val->Bool): ∀ (l:Tab) (r:List Val),cnt (l.filter fun x=>q x.1) r=if q r=true then cnt l r else 0
 | [],r=>by simp [cnt]
 |x::l,r=>by
  have ih:=znd q l r
  rw [List.filter_cons]
  by_cases hx:yag x.1 r=0
  ·have e:=(zar _ _).1 hx
   cases hq:q x.1
   ·rw [if_neg qH]
    rw [ih,<-e,hq];simp
   ·rw [if_pos rfl,cnt,cnt,ih,<-e,hq];simp
  ·cases hq:q x.1
   ·rw [if_neg qH,ih,cnt,if_neg hx,Int.zero_add]
   ·rw [if_pos rfl,cnt,cnt,ih,if_neg hx,Int.zero_add,Int.zero_add]
section
variable {cs cs':List Col}{p:List Nod}
end
structure okX (cs:List Col)(p:List Nod)(t:Knd):Prop where
 len:p.length<=60
 nod: ∀ x∈p,okN cs x
 blk:ycx cs p t
 cols:okCols cs
 names: ∀ c∈cs,c.nm∈knownN
theorem okCols.kinds {cs:List Col}(h:okCols cs): ∀ c∈cs,1<=c.k/\c.k<=4:=fun c hc=>by
 obtain ⟨j,hj⟩:=List.getElem?_of_mem hc
 obtain ⟨_,k1,k2,_⟩:=h.2.2 j c hj
 exact ⟨k1,k2⟩
end
section
open Go.BigFrame Go.RowKit
section
variable {α β:Type}{K:Kin α β}{w:World}{base n k:Nat}{A:Option Addr}{c:Nat}{l:List β}
theorem zcd (A:Option Addr)(n k c:Nat):(Value.slice A n c).ownBlock=(Value.slice A k c).ownBlock:=by cases A<;>rfl
theorem ownD.short (h:ownD K w base (.slice A n c) n l)(hk:k<=n):ownD K w base (.slice A k c) k (l.take k):=by
 obtain ⟨es,⟨h0,h1⟩,h2,h3⟩:=h
 refine ⟨es.take k,⟨?_,?_⟩,h2.take k,fun a ha=>?_⟩
 ·rw [zea K.len,List.length_take,h0]
  exact Nat.min_eq_left (Nat.mul_le_mul_right _ hk)
 ·rcases h1 with ⟨e,hn⟩|⟨g,cap,cur,e,hb,hg,hnc,hm,hs,ht⟩
  ·injection e with e1 e2 e3
   subst e1;subst e3
   exact .inl ⟨by rw [show k=0 by omega],by omega⟩
  ·injection e with e1 e2 e3
   subst e1;subst e3
   refine .inr ⟨g,c,cur,rfl,hb,hg,qR hk hnc,hm,hs,?_⟩
   rw [zea K.len,<-ht,List.take_take,Nat.min_eq_left (Nat.mul_le_mul_right _ hk)]
 ·rw [<-zcd A n k c]
  exact h3 a (List.mem_of_mem_take ha)
end
theorem zny (x:Nod)(h0:0<=x.op)(h20:x.op<=20)(w:World):Calls Tryz.prog 34 #[.agg #[.int .i64 x.op, .int .i64 x.vk, .int .i64 x.vm, .string x.vs, .string x.nm, .int .i64 x.ar]] w fun e w'=>e= .returned (.int .i64 (arN x.op:Nat))/\Below w.heap.size w w':=by
 obtain ⟨op,vk,vm,vs,nm,ar⟩:=x
 simp only at h0 h20
 have hop:op=0∨op=1∨op=2∨op=3∨op=4∨op=5∨op=6∨op=7∨op=8∨op=9∨op=10∨op=11∨op=12∨op=13∨op=14∨op=15∨op=16∨op=17∨op=18∨op=19∨op=20:=by omega
 clear h0 h20
 rcases hop with rfl|rfl|rfl|rfl|rfl|rfl|rfl|rfl|rfl|rfl|rfl|rfl|rfl|rfl|rfl|rfl|rfl|rfl|rfl|rfl|rfl
 all_goals
  go_enter Tryz.func34,Tryz.ntmps34
  go_wp2
  go_ret
  exact ⟨rfl,zae _ _⟩
theorem okN.name {cs:List Col}{n:Nod}(h:okN cs n)(hcs: ∀ c∈cs,c.nm∈knownN)(h1:n.op=1):n.nm∈knownN:=by
 obtain ⟨j,c,_,hc,hp⟩:=zc3 (p:=yd1 n.nm) (l:=cs) (h.col h1)
 have e:c.nm.toList=n.nm.toList:=by simpa [yd1] using hp
 have e2:c.nm=n.nm:=toList_inj e
 rw [<-e2]
 exact hcs c (qP hc)
theorem yn8 {cs:List Col}(x:Nod)(h:okN cs x)(hcs: ∀ c∈cs,c.nm∈knownN)(w:World):Calls Tryz.prog 48 #[.agg #[.int .i64 x.op, .int .i64 x.vk, .int .i64 x.vm, .string x.vs, .string x.nm, .int .i64 x.ar]] w fun e w'=>e= .returned (.bool true)/\Below w.heap.size w w':=by
 have HW:Hid (x.op=1-> ∀ W,Calls Tryz.prog 78 #[.string x.nm] W fun e w'=>e= .returned (.bool true)/\Below W.heap.size W w'):=qL fun h1 W=>zgy (yyv _ (h.name hcs h1)).1 W
 have HZ:Hid (x.op=20-> ∀ W,Calls Tryz.prog 79 #[.string x.nm] W fun e w'=>e= .returned (.bool true)/\Below W.heap.size W w'):=qL fun h1 W=>by
  obtain ⟨z,hz,e⟩:=h.day h1
  rw [e]
  exact zgy (Ycr z hz).1 W
 have HA:=qL (zny x h.lo h.hi)
 have HN:=qL h
 obtain ⟨op,vk,vm,vs,nm,ar⟩:=x
 have qe:=zne
 have e0:=h.ar
 simp only at e0
 subst e0
 clear h
 by_cases c0:op=0
 ·subst c0
  obtain ⟨e1,hv⟩:=HN.out.cst rfl
  simp only at e1 hv
  subst e1
  have HV:=qL hv
  clear hv
  go_enter Tryz.func48,Tryz.ntmps48
  go_wp2_with fail
  refine (zp5 vk vm vs _).mono ?_
  rw [HV.out]
  rintro e w5 ⟨rfl,hb5⟩
  have z2:w5.cell? ⟨w.heap.size,4,none⟩=some (.string ⟨#[]⟩):=qM hb5 qH
  have z3:w5.cell? ⟨w.heap.size,5,none⟩=some (.int .i64 0):=qM hb5 qH
  have HB5:=qL (btr (zae _ _) hb5)
  clear hb5
  go_wp2
  go_ret
  exact ⟨rfl,HB5.out⟩
 ·obtain ⟨e1,e2,e3⟩:=HN.out.zero c0
  simp only at e1 e2 e3
  subst e1;subst e2;subst e3
  by_cases c1:op=1
  ·subst c1
   clear c0
   have HW2:=qL (HW.out rfl)
   clear HW HZ HA
   go_enter Tryz.func48,Tryz.ntmps48
   go_wp2_with fail
   refine (HW2.out _).mono ?_
   rintro e w5 ⟨rfl,hb5⟩
   have HB5:=qL (btr (zae _ _) hb5)
   clear hb5
   go_wp2
   go_ret
   exact ⟨rfl,HB5.out⟩
  ·by_cases c20:op=20
   ·subst c20
    clear c0 c1
    have HZ2:=qL (HZ.out rfl)
    clear HW HZ HA
    go_enter Tryz.func48,Tryz.ntmps48
    go_wp2_with fail
    refine (HZ2.out _).mono ?_
    rintro e w5 ⟨rfl,hb5⟩
    have HB5:=qL (btr (zae _ _) hb5)
    clear hb5
    go_wp2
    go_ret
    exact ⟨rfl,HB5.out⟩
   ·have e4:=HN.out.bare c0 c1 c20
    simp only at e4
    subst e4
    have d0:(op==0)=false:=by simpa using c0
    have d1:(op==1)=false:=by simpa using c1
    have d2:(op==20)=false:=by simpa using c20
    have d3:(op==21)=false:=by have:=HN.out.hi;simp only at this;simp;omega
    have d4:decide ((0:Int)<=(arN op:Int))=true:=by simp
    clear c0 c1 c20 HW HZ
    go_enter Tryz.func48,Tryz.ntmps48
    go_wp2_with fail
    refine (HA.out _).mono ?_
    rintro e w5 ⟨rfl,hb5⟩
    have z2:w5.cell? ⟨w.heap.size,4,none⟩=some (.string ⟨#[]⟩):=qM hb5 qH
    have z3:w5.cell? ⟨w.heap.size,5,none⟩=some (.int .i64 0):=qM hb5 qH
    have HB5:=qL (btr (zae _ _) hb5)
    clear hb5
    go_wp2
    go_ret
    exact ⟨rfl,HB5.out⟩
theorem yzb (A:Option Addr)(n c a K:Nat)(hs:List Int)(w:World)(h:rInt w A n hs)(hK: ∀ x∈hs,x<=K)(ha:a<=n)(hn:n<=1000)(hK2:K<=1000)(hnc:n<=c):Calls Tryz.prog 49 #[.slice A n c, .int .i64 a] w fun e w'=> ∃ x:Int,e= .returned (.tuple #[.int .i64 x, .slice A (n - a:Nat) c])/\x<=(K:Int)+1/\0<=x/\Below w.heap.size w w':=by
 have H:=qL h
 have HL:=qL h.len
 have HKK:=qL hK
 have e1:((n:Int) - (a:Int))=((n - a:Nat):Int):=by omega
 clear h hK
 go_enter Tryz.func49,Tryz.ntmps49
 go_wp2
 go_loopw [6,8] (fun m i wr=> ∃ (k:Nat) (x:Int),n - a<=k/\k<=n/\i= .int .i64 k/\m= .int .i64 x/\0<=x/\x<=K/\wr=w) (fun _ i _=>n - (intOf i).toNat)
 case atStart=>exact ⟨n - a,0,by omega,by omega,by rw [<-e1],rfl,by omega,by omega,by first |rfl|trivial⟩
 case round=>
  obtain ⟨k,x,hk1,hk,rfl,rfl,hx0,hxK,rfl⟩:=hrel
  by_cases hlt:k<n
  ·obtain ⟨b1,o1,rfl,hc1⟩:=H.out.opn qF
   obtain ⟨y,hy⟩:=zah (l:=hs) (k:=k) (by have:=HL.out;omega)
   have y1:=hc1 k y hy
   have hy2:=HKK.out y (qP hy)
   clear hc1 hy
   go_wp2
   go_roundw
   case rel=>exact ⟨k+1,max x y,by omega,by omega,by go_num,by first |rfl|simp,by omega,by omega,by first |rfl|trivial⟩
   case measure=>simp [intOf];omega
  ·obtain rfl:k=n:=by omega
   go_wp2
   go_quiet (fail)
   go_wp2
   go_ret2
   exact ⟨x+1,rfl,by omega,by omega,za6 (za0 _) _⟩
def Hts (cs:List Col)(p:List Nod)(k:Nat)(hs:List Int):Prop:= ∃ ts,yb5 cs (p.take k) []=some ts/\hs.length=ts.length/\ ∀ x∈hs,x<=(k:Int)
theorem Hts.step {cs:List Col}{p:List Nod}{t:Knd}{k:Nat}{hs:List Int}{x:Nod}(hb:ycx cs p t)(h:Hts cs p k hs)(hx:p[k]?=some x):arN x.op<=hs.length/\ ∀ y:Int,y<=(k:Int)+1->Hts cs p (k+1) (hs.take (hs.length - arN x.op)++ [y]):=by
 obtain ⟨ts,h1,h2,h3⟩:=h
 obtain ⟨s1,s2,e1,e2,e3⟩:=zdk (hb []) hx
 rw [h1] at e1
 cases e1
 obtain ⟨l1,l2⟩:=zmz e2
 refine ⟨by omega,fun y hy=>⟨s2,e3,?_,fun z hz=>?_⟩⟩
 ·rw [List.length_append,List.length_take,List.length_singleton,l2];omega
 ·rcases List.mem_append.1 hz with hz|hz
  ·have:=h3 z (List.mem_of_mem_take hz);omega
  ·rw [List.mem_singleton] at hz;omega
theorem yqc {cs:List Col}{t:Knd}(A:Option Addr)(n c:Nat)(p:List Nod)(w:World)(h:rNod w A n p)(hn:n<=60)(hk: ∀ x∈p,okN cs x)(hb:ycx cs p t)(hcs: ∀ c∈cs,c.nm∈knownN):Calls Tryz.prog 31 #[.slice A n c] w fun e w'=>e= .returned (.int .i64 0)/\Below w.heap.size w w':=by
 obtain ⟨iI,PI⟩:=Yc6
 have H:=qL h
 have HL:=qL h.len
 have HK:=qL hk
 have HB:=qL hb
 have HCS:=qL hcs
 clear h hk hb hcs
 go_enter Tryz.func31,Tryz.ntmps31
 go_wp2
 go_loopw [3,4] (fun v i wr=> ∃ (k:Nat) (hs:List Int),k<=n/\i= .int .i64 k/\Below w.heap.size w wr/\Hid (Hts cs p k hs)/\Hid (ownD kInt wr w.heap.size v hs.length hs)) (fun _ i _=>n - (intOf i).toNat)
 case atStart=>exact ⟨0,[],by omega,rfl,za0 _,qL ⟨[],rfl,rfl,fun x h=>by cases h⟩,qL (ownD.nil _ _)⟩
 case round=>
  obtain ⟨k,hs,hkn,rfl,hbw,HH,HO⟩:=hrel
  obtain ⟨wz,rfl⟩: ∃ wz,wz=wr:=⟨_,rfl⟩
  have HBW:=qL hbw
  have HV0:Hid (∀ y,u3.ownBlock=some y->w.heap.size<=y):=qL fun y e=>(HO.out.lt y e).1
  obtain ⟨vA,vC,hv3,hvc,hrd,_⟩:=HO.out.rd
  subst hv3
  have hsl:hs.length<=k:=by
   obtain ⟨ts,h1,h2,_⟩:=HH.out
   have:=zdu h1
   rw [List.length_take] at this
   simp at this;omega
  by_cases hlt:k<n
  ·obtain ⟨b1,o1,rfl,hc1⟩:=H.out.opn qF
   obtain ⟨x,hx⟩:=zah (l:=p) (k:=k) (by have:=HL.out;omega)
   obtain ⟨x1,x2,x3,x4,x5,x6⟩:=hc1 k x hx
   obtain ⟨ha,hst⟩:=HH.out.step HB.out hx
   have HST:=qL hst
   have HX:=HK.out x (qP hx)
   have z1:=qM hbw x1
   have z2:=qM hbw x2
   have z3:=qM hbw x3
   have z4:=qM hbw x4
   have z5:=qM hbw x5
   have z6:=qM hbw x6
   have HF:=qL (yn8 x HX HCS.out wz)
   have HA:=qL fun W=>zny x HX.lo HX.hi W
   have d1:decide ((hs.length:Int)<(arN x.op:Int))=false:=by simp;omega
   have HR:Hid (∀ W,Below wz.heap.size wz W->Calls Tryz.prog 49 #[.slice vA hs.length vC, .int .i64 (arN x.op:Nat)] W fun e w'=> ∃ x_1:Int,e= .returned (.tuple #[.int .i64 x_1, .slice vA (hs.length - arN x.op:Nat) vC])/\x_1<=(k:Int)+1/\0<=x_1/\Below W.heap.size W w'):=qL fun W hb=>yzb vA hs.length vC (arN x.op) k hs W ((zgl.1 hrd).later hb) (by obtain ⟨ts,_,_,h3⟩:=HH.out;exact h3) ha qF qF hvc
   have HOS:=qL (HO.out.short (k:=hs.length - arN x.op) qF)
   clear hc1 hx x1 x2 x3 x4 x5 x6 hrd hst hbw HX
   go_wp2_with fail
   refine HF.out.mono ?_
   rintro e w2 ⟨rfl,hb2⟩
   have z1:=qM hb2 z1
   have z2:=qM hb2 z2
   have z3:=qM hb2 z3
   have z4:=qM hb2 z4
   have z5:=qM hb2 z5
   have z6:=qM hb2 z6
   have HB2:=qL hb2
   clear hb2
   go_wp2_with fail
   refine (HA.out _).mono ?_
   rintro e w3 ⟨rfl,hb3⟩
   have z1:=qM hb3 z1
   have z2:=qM hb3 z2
   have z3:=qM hb3 z3
   have z4:=qM hb3 z4
   have z5:=qM hb3 z5
   have z6:=qM hb3 z6
   have HB3:=qL (btr HB2.out hb3)
   clear hb3
   go_wp2_with fail
   refine (HA.out _).mono ?_
   rintro e w4 ⟨rfl,hb4⟩
   have HB4:=qL (btr HB3.out hb4)
   have HRR:=qL (HR.out w4 HB4.out)
   clear hb4 z1 z2 z3 z4 z5 z6
   go_wp2_with fail
   refine HRR.out.mono ?_
   rintro e w5 ⟨y,rfl,hy1,hy0,hb5⟩
   have HB5:=qL (btr HB4.out hb5)
   have d2:decide ((64:Int)<y)=false:=by simp;omega
   have HOP:=qL ((HOS.out.later HB5.out).later (zae w5 (.cells #[.int .i64 y] 3)))
   have hsz5:w.heap.size<=(w5.alloc (.cells #[.int .i64 y] 3)).heap.size:=qR HBW.out.size (qR HB5.out.size (zae _ _).size)
   have hnn:hs.length - arN x.op<1000000:=by omega
   have HV1:Hid (∀ q,(Value.slice vA (hs.length - arN x.op) vC).ownBlock=some q->w.heap.size<=q):=qL fun q e=>HV0.out q (by rw [zcd _ _ (hs.length - arN x.op) _];exact e)
   clear hb5
   go_wp2_with (at_builtin;refine zaq _ rfl _ _ rfl PI HOP.out ⟨_,0,none⟩ y y rfl rfl zd5 rfl (fun p hp=>by cases hp) hnn hsz5 ?_;intro v' w' hown' hgrow hat)
   have HBF:=qL (zaf ((btr HBW.out HB5.out).alloc (btr HBW.out HB5.out).size _) hgrow HV1.out)
   have HOF:=qL (za2 hown' (l':=hs.take (hs.length - arN x.op)++ [y]) rfl)
   have HHF:=qL (HST.out y hy1)
   clear hown' hgrow hat
   go_wp2
   go_roundw
   case rel=>exact ⟨k+1,_,by omega,by go_num,HBF.out,HHF,HOF⟩
   case measure=>simp [intOf];omega
  ·obtain rfl:k=n:=by omega
   have hone:hs.length=1:=by
    obtain ⟨ts,h1,h2,_⟩:=HH.out
    rw [List.take_of_length_le (by have:=HL.out;omega),HB.out []] at h1
    cases h1
    exact h2
   have d3:((hs.length:Int)==1)=true:=by simp [hone]
   have d4:((hs.length:Int) !=1)=false:=by simp [hone]
   clear hone hrd
   go_wp2
   go_ret
   exact ⟨zak rfl,hbw⟩
def smI (n:Int):Bool:=decide (-1073741824<=n)&&decide (n<=1073741824)
theorem zik {n:Int}:smI n=true↔(-1073741824<=n/\n<=1073741824):=by unfold smI;simp
theorem zfe {n:Int}(h1: -1073741824<=n)(h2:n<=1073741824):smI n=true:=zik.2 ⟨h1,h2⟩
theorem yps (n:Int):ya5 n=if smI n=true then ⟨2,n,⟨#[]⟩⟩ else zV:=by
 cases h:smI n
 ·rw [if_neg qH]
  unfold ya5
  have: ¬ (-1073741824<=n/\n<=1073741824):=fun h2=>by rw [zik.2 h2] at h;cases h
  rw [if_pos qF]
 ·obtain ⟨h1,h2⟩:=zik.1 h
  rw [if_pos rfl,zkx h1 h2]
def ymp (m:Int)(ok:Bool):Val:=if ok=true then ⟨2,m,⟨#[]⟩⟩ else zV
theorem you (a b:Int)(a1: -1073741824<=a)(a2:a<=1073741824)(b1: -1073741824<=b)(b2:b<=1073741824): -1152921504606846976<=a*b/\a*b<=1152921504606846976:=by
 have h1:a.natAbs<=1073741824:=by omega
 have h2:b.natAbs<=1073741824:=by omega
 have h3:(a*b).natAbs=a.natAbs*b.natAbs:=Int.natAbs_mul a b
 have h4:=Nat.mul_le_mul h1 h2
 omega
theorem ylm (a b:Int)(a1: -1073741824<=a)(a2:a<=1073741824): -1073741824<=a.tdiv b/\a.tdiv b<=1073741824:=by
 have h:=Int.natAbs_tdiv a b
 have h1:a.natAbs.div b.natAbs<=a.natAbs:=Nat.div_le_self a.natAbs b.natAbs
 rw [<-h] at h1
 omega
theorem ylq (a b:Int)(b1: -1073741824<=b)(b2:b<=1073741824)(hb:b≠0): -1073741824<a.tmod b/\a.tmod b<1073741824:=by
 have h:(a.tmod b).natAbs<b.natAbs:=by rw [Int.natAbs_tmod];exact Nat.mod_lt _ qF
 omega
theorem zdv (n:Int)(w:World):Calls Tryz.prog 303 #[.int .i64 n] w fun e w'=>e= .returned (.bool (smI n))/\w=w':=by
 by_cases h1: -1073741824<=n
 ·by_cases h2:n<=1073741824
  ·have hs:Hid (smI n=true):=qL (zik.2 ⟨h1,h2⟩)
   go_enter Tryz.func303,Tryz.ntmps303
   go_wp2
   go_ret
   exact ⟨zal hs.out.symm,rfl⟩
  ·have hs:Hid (smI n=false):=qL (by unfold smI;simp;omega)
   have hd:decide (n<=1073741824)=false:=by simpa using h2
   go_enter Tryz.func303,Tryz.ntmps303
   go_wp2
   go_ret
   exact ⟨zal hs.out.symm,rfl⟩
 ·have hs:Hid (smI n=false):=qL (by unfold smI;simp;omega)
  have hd:decide (-1073741824<=n)=false:=by simpa using h1
  go_enter Tryz.func303,Tryz.ntmps303
  go_wp2
  go_ret
  exact ⟨zal hs.out.symm,rfl⟩
def yqh (v:Val)(w:World)(e:Ending)(w':World):Prop:= ∃ m ok,e= .returned (.tuple #[.int .i64 m, .bool ok])/\ymp m ok=v/\Below w.heap.size w w'
theorem zn9 (n:Int)(w:World):Calls Tryz.prog 304 #[.int .i64 n] w (yqh (ya5 n) w):=by
 cases hs:smI n
 all_goals
  have H:=qL hs
  go_enter Tryz.func304,Tryz.ntmps304
  go_wp2_with (go_at_call 303;refine (zdv _ _).mono ?_;rintro e w' ⟨rfl,rfl⟩)
  go_ret2
  exact ⟨_,_,rfl,by rw [yps,H.out];rfl,za0 _⟩
theorem addX (a b:Int)(w:World)(a1: -1073741824<=a)(a2:a<=1073741824)(b1: -1073741824<=b)(b2:b<=1073741824):Calls Tryz.prog 308 #[.int .i64 a, .int .i64 b] w (yqh (ya5 (a+b)) w):=by
 have ha:=zfe a1 a2
 have hb:=zfe b1 b2
 have hw:IntKind.i64.wrap (a+b)=a+b:=by rw [IntKind.wrap_i64];omega
 go_enter Tryz.func308,Tryz.ntmps308
 go_wp2_with (first
  |(go_at_call 303;refine (zdv _ _).mono ?_;rintro e w' ⟨rfl,rfl⟩)
  |(go_at_call 304;refine (zn9 _ _).mono ?_;rintro e w' ⟨m,ok,rfl,hv,hb⟩))
 go_ret2
 exact ⟨_,_,rfl,hv,hb⟩
theorem subX (a b:Int)(w:World)(a1: -1073741824<=a)(a2:a<=1073741824)(b1: -1073741824<=b)(b2:b<=1073741824):Calls Tryz.prog 279 #[.int .i64 a, .int .i64 b] w (yqh (ya5 (a - b)) w):=by
 have ha:=zfe a1 a2
 have hb:=zfe b1 b2
 have hw:IntKind.i64.wrap (a - b)=a - b:=by rw [IntKind.wrap_i64];omega
 go_enter Tryz.func279,Tryz.ntmps279
 go_wp2_with (first
  |(go_at_call 303;refine (zdv _ _).mono ?_;rintro e w' ⟨rfl,rfl⟩)
  |(go_at_call 304;refine (zn9 _ _).mono ?_;rintro e w' ⟨m,ok,rfl,hv,hb⟩))
 go_ret2
 exact ⟨_,_,rfl,hv,hb⟩
theorem mulX (a b:Int)(w:World)(a1: -1073741824<=a)(a2:a<=1073741824)(b1: -1073741824<=b)(b2:b<=1073741824):Calls Tryz.prog 309 #[.int .i64 a, .int .i64 b] w (yqh (ya5 (a*b)) w):=by
 have ha:=zfe a1 a2
 have hb:=zfe b1 b2
 have bm:=you a b a1 a2 b1 b2
 have hw:IntKind.i64.wrap (a*b)=a*b:=by rw [IntKind.wrap_i64];omega
 go_enter Tryz.func309,Tryz.ntmps309
 go_wp2_with (first
  |(go_at_call 303;refine (zdv _ _).mono ?_;rintro e w' ⟨rfl,rfl⟩)
  |(go_at_call 304;refine (zn9 _ _).mono ?_;rintro e w' ⟨m,ok,rfl,hv,hb⟩))
 go_ret2
 exact ⟨_,_,rfl,hv,hb⟩
def QuoR (a b:Int)(w:World)(e:Ending)(w':World):Prop:= ∃ q r ok,e= .returned (.tuple #[.int .i64 q, .int .i64 r, .bool ok])/\ymp q ok=(if b=0 then zV else ⟨2,yfm a b,⟨#[]⟩⟩)/\ymp r ok=(if b=0 then zV else ⟨2,yfn a b,⟨#[]⟩⟩)/\Below w.heap.size w w'
theorem zoi (a b:Int)(w:World)(a1: -1073741824<=a)(a2:a<=1073741824)(b1: -1073741824<=b)(b2:b<=1073741824):Calls Tryz.prog 331 #[.int .i64 a, .int .i64 b] w (QuoR a b w):=by
 have ha:=zfe a1 a2
 have hb:=zfe b1 b2
 by_cases hz:b=0
 ·subst hz
  go_enter Tryz.func331,Tryz.ntmps331
  go_wp2_with (go_at_call 303;refine (zdv _ _).mono ?_;rintro e w' ⟨rfl,rfl⟩)
  go_ret3
  exact ⟨_,_,_,rfl,rfl,rfl,za0 _⟩
 ·have hz':(b==0)=false:=by simpa using hz
  have bq:=ylm a b a1 a2
  have br:=ylq a b b1 b2 hz
  have hwq:IntKind.i64.wrap (a.tdiv b)=a.tdiv b:=by rw [IntKind.wrap_i64];omega
  by_cases hr:a.tmod b=0
  ·have HQ:Hid (yfm a b=a.tdiv b):=qL (by unfold yfm;rw [if_neg (by simp [hr])])
   have HR:Hid (yfn a b=0):=qL (by unfold yfn;rw [if_neg (by simp [hr]),hr])
   have HZ:=qL hz
   go_enter Tryz.func331,Tryz.ntmps331
   go_wp2_with (go_at_call 303;refine (zdv _ _).mono ?_;rintro e w' ⟨rfl,rfl⟩)
   go_quiet (fail)
   go_wp2
   go_ret3
   exact ⟨_,_,_,rfl,by rw [if_neg HZ.out,HQ.out];rfl,by rw [if_neg HZ.out,HR.out];rfl,zbh _ _⟩
  ·have hr':(a.tmod b !=0)=true:=by simpa using hr
   have HZ:=qL hz
   by_cases h2:a.tmod b<0<;>by_cases h3:b<0
   ·have HQ:Hid (yfm a b=a.tdiv b):=qL (by unfold yfm;rw [if_neg (by simp [h2,h3])])
    have HR:Hid (yfn a b=a.tmod b):=qL (by unfold yfn;rw [if_neg (by simp [h2,h3])])
    go_enter Tryz.func331,Tryz.ntmps331
    go_wp2_with (go_at_call 303;refine (zdv _ _).mono ?_;rintro e w' ⟨rfl,rfl⟩)
    go_quiet (fail)
    go_wp2
    go_ret3
    exact ⟨_,_,_,rfl,by rw [if_neg HZ.out,HQ.out];rfl,by rw [if_neg HZ.out,HR.out];rfl,zbh _ _⟩
   ·have HQ:Hid (yfm a b=a.tdiv b - 1):=qL (by unfold yfm;rw [if_pos ⟨hr,by simp [h2,h3]⟩])
    have HR:Hid (yfn a b=a.tmod b+b):=qL (by unfold yfn;rw [if_pos ⟨hr,by simp [h2,h3]⟩])
    have h3':decide (b<0)=false:=by simpa using h3
    go_enter Tryz.func331,Tryz.ntmps331
    go_wp2_with (go_at_call 303;refine (zdv _ _).mono ?_;rintro e w' ⟨rfl,rfl⟩)
    go_quiet (fail)
    go_wp2
    go_ret3
    exact ⟨_,_,_,rfl,by rw [if_neg HZ.out,HQ.out];rfl,by rw [if_neg HZ.out,HR.out];rfl,zbh _ _⟩
   ·have HQ:Hid (yfm a b=a.tdiv b - 1):=qL (by unfold yfm;rw [if_pos ⟨hr,by simp [h2,h3]⟩])
    have HR:Hid (yfn a b=a.tmod b+b):=qL (by unfold yfn;rw [if_pos ⟨hr,by simp [h2,h3]⟩])
    have h2':decide (a.tmod b<0)=false:=by simpa using h2
    go_enter Tryz.func331,Tryz.ntmps331
    go_wp2_with (go_at_call 303;refine (zdv _ _).mono ?_;rintro e w' ⟨rfl,rfl⟩)
    go_quiet (fail)
    go_wp2
    go_ret3
    exact ⟨_,_,_,rfl,by rw [if_neg HZ.out,HQ.out];rfl,by rw [if_neg HZ.out,HR.out];rfl,zbh _ _⟩
   ·have HQ:Hid (yfm a b=a.tdiv b):=qL (by unfold yfm;rw [if_neg (by simp [h2,h3])])
    have HR:Hid (yfn a b=a.tmod b):=qL (by unfold yfn;rw [if_neg (by simp [h2,h3])])
    have h2':decide (a.tmod b<0)=false:=by simpa using h2
    have h3':decide (b<0)=false:=by simpa using h3
    go_enter Tryz.func331,Tryz.ntmps331
    go_wp2_with (go_at_call 303;refine (zdv _ _).mono ?_;rintro e w' ⟨rfl,rfl⟩)
    go_quiet (fail)
    go_wp2
    go_ret3
    exact ⟨_,_,_,rfl,by rw [if_neg HZ.out,HQ.out];rfl,by rw [if_neg HZ.out,HR.out];rfl,zbh _ _⟩
def dvV (a b:Int):Val:=if b=0 then zV else ⟨2,yfm a b,⟨#[]⟩⟩
def mdV (a b:Int):Val:=if b=0 then zV else ⟨2,yfn a b,⟨#[]⟩⟩
theorem divX (a b:Int)(w:World)(a1: -1073741824<=a)(a2:a<=1073741824)(b1: -1073741824<=b)(b2:b<=1073741824):Calls Tryz.prog 310 #[.int .i64 a, .int .i64 b] w (yqh (dvV a b) w):=by
 go_enter Tryz.func310,Tryz.ntmps310
 go_wp2_with (go_at_call 331;refine (zoi _ _ _ a1 a2 b1 b2).mono ?_;rintro e w' ⟨q,r,ok,rfl,hq,hr,hb⟩;have HQ:=qL hq;have HR:=qL hr;clear hq hr)
 go_ret2
 exact ⟨_,_,rfl,HQ.out,hb⟩
theorem modX (a b:Int)(w:World)(a1: -1073741824<=a)(a2:a<=1073741824)(b1: -1073741824<=b)(b2:b<=1073741824):Calls Tryz.prog 311 #[.int .i64 a, .int .i64 b] w (yqh (mdV a b) w):=by
 go_enter Tryz.func311,Tryz.ntmps311
 go_wp2_with (go_at_call 331;refine (zoi _ _ _ a1 a2 b1 b2).mono ?_;rintro e w' ⟨q,r,ok,rfl,hq,hr,hb⟩;have HQ:=qL hq;have HR:=qL hr;clear hq hr)
 go_ret2
 exact ⟨_,_,rfl,HR.out,hb⟩
theorem zdg (m:Int)(ok:Bool)(w:World):Calls Tryz.prog 278 #[.int .i64 m, .bool ok] w fun e w'=>e= .returned (.agg #[.int .i64 (ymp m ok).k, .int .i64 (ymp m ok).m, .string (ymp m ok).s])/\Below w.heap.size w w':=by
 cases ok
 ·go_enter Tryz.func278,Tryz.ntmps278
  go_wp2
  exact bodyPost_ret (v:= .agg #[.int .i64 0, .int .i64 0, .string ⟨#[]⟩]) (by simp [results,Tryz.results278,go_sem]) rfl ⟨rfl,zae _ _⟩
 ·go_enter Tryz.func278,Tryz.ntmps278
  go_wp2
  exact bodyPost_ret (v:= .agg #[.int .i64 2, .int .i64 m, .string ⟨#[]⟩]) (by simp [results,Tryz.results278,go_sem]) rfl ⟨rfl,zae _ _⟩
theorem zb8 (b:Bool)(w:World):Calls Tryz.prog 276 #[.bool b] w fun e w'=>e= .returned (.agg #[.int .i64 (yb3 b).k, .int .i64 (yb3 b).m, .string (yb3 b).s])/\Below w.heap.size w w':=by
 cases b
 ·go_enter Tryz.func276,Tryz.ntmps276
  go_wp2
  exact bodyPost_ret (v:= .agg #[.int .i64 1, .int .i64 0, .string ⟨#[]⟩]) (by simp [results,Tryz.results276,go_sem]) rfl ⟨rfl,zae _ _⟩
 ·go_enter Tryz.func276,Tryz.ntmps276
  go_wp2
  exact bodyPost_ret (v:= .agg #[.int .i64 1, .int .i64 1, .string ⟨#[]⟩]) (by simp [results,Tryz.results276,go_sem]) rfl ⟨rfl,zae _ _⟩
theorem zpg (n:Int)(w:World):Calls Tryz.prog 307 #[.int .i64 n] w fun e w'=>e= .returned (.agg #[.int .i64 (ydr n).k, .int .i64 (ydr n).m, .string (ydr n).s])/\Below w.heap.size w w':=by
 by_cases h1:n<0
 ·have HM:Hid (ydr n=zV):=qL (by unfold ydr;rw [if_pos (.inl h1)])
  rw [HM.out]
  go_enter Tryz.func307,Tryz.ntmps307
  go_wp2
  exact bodyPost_ret (v:= .agg #[.int .i64 0, .int .i64 0, .string ⟨#[]⟩]) (by simp [results,Tryz.results307,go_sem]) rfl ⟨rfl,zae _ _⟩
 ·have h1':decide (n<0)=false:=by simpa using h1
  by_cases h2:575999999<n
  ·have HM:Hid (ydr n=zV):=qL (by unfold ydr;rw [if_pos (.inr h2)])
   rw [HM.out]
   go_enter Tryz.func307,Tryz.ntmps307
   go_wp2
   exact bodyPost_ret (v:= .agg #[.int .i64 0, .int .i64 0, .string ⟨#[]⟩]) (by simp [results,Tryz.results307,go_sem]) rfl ⟨rfl,zae _ _⟩
  ·have h2':decide (575999999<n)=false:=by simpa using h2
   have HM:Hid (ydr n=⟨4,n,⟨#[]⟩⟩):=qL (by unfold ydr;rw [if_neg qF])
   rw [HM.out]
   go_enter Tryz.func307,Tryz.ntmps307
   go_wp2
   exact bodyPost_ret (v:= .agg #[.int .i64 4, .int .i64 n, .string ⟨#[]⟩]) (by simp [results,Tryz.results307,go_sem]) rfl ⟨rfl,zae _ _⟩
def yea (u v:Val):Bool:=(u.k==v.k&&(u.m==v.m&&u.s.toList==v.s.toList))
theorem zjk (u v:Val):yea u v=(ya0 u v==0):=by
 rw [Bool.eq_iff_iff]
 unfold yea
 simp only [Bool.and_eq_true,beq_iff_eq]
 rw [zct]
 constructor
 ·rintro ⟨h1,h2,h3⟩
  exact zqo h1 h2 (toList_inj h3)
 ·rintro rfl
  exact ⟨rfl,rfl,rfl⟩
theorem yy0 (a b:Int)(s:ByteArray)(a' b':Int)(s':ByteArray)(w:World):
 (binOp .neq 46 (.agg #[.int .i64 a, .int .i64 b, .string s]) (.agg #[.int .i64 a', .int .i64 b', .string s'])).run Tryz.prog w= .ok (.bool (!(a==a'&&(b==b'&&s.toList==s'.toList)))) w:=by
 have h:=zne a b s a' b' s' w
 have he:(Op.equal 46 (.agg #[.int .i64 a, .int .i64 b, .string s]) (.agg #[.int .i64 a', .int .i64 b', .string s'])).run Tryz.prog w= .ok (a==a'&&(b==b'&&s.toList==s'.toList)) w:=by
  have e:binOp .eql 46 (.agg #[.int .i64 a, .int .i64 b, .string s]) (.agg #[.int .i64 a', .int .i64 b', .string s'])=(do pure (.bool (<-Op.equal 46 (.agg #[.int .i64 a, .int .i64 b, .string s]) (.agg #[.int .i64 a', .int .i64 b', .string s'])))):=rfl
  rw [e,Sem.run_bind] at h
  generalize (Op.equal 46 (.agg #[.int .i64 a, .int .i64 b, .string s]) (.agg #[.int .i64 a', .int .i64 b', .string s'])).run Tryz.prog w=rr at h ⊢
  cases rr with
  |ok q w'=>
   rw [Result.andThen_ok,Sem.run_pure] at h
   injection h with h1 h2
   injection h1 with h1
   rw [h1,h2]
  |halt q w'=>
   rw [Result.andThen_halt] at h
   exact absurd h (fun e=>by cases e)
 have e:binOp .neq 46 (.agg #[.int .i64 a, .int .i64 b, .string s]) (.agg #[.int .i64 a', .int .i64 b', .string s'])=(do pure (.bool (!(<-Op.equal 46 (.agg #[.int .i64 a, .int .i64 b, .string s]) (.agg #[.int .i64 a', .int .i64 b', .string s']))))):=rfl
 rw [e]
 simp only [Sem.run_bind,he,Result.andThen_ok]
 rfl
theorem zb0 {W w':World}(h:Below W.drew.heap.size W.drew w'):Below W.heap.size W w':=zap h
theorem zjs (v:Val)(w:World):Calls Tryz.prog 206 #[.agg #[.int .i64 v.k, .int .i64 v.m, .string v.s]] w fun e w'=>e= .returned (.int .i64 (ybz v))/\Below w.heap.size w w':=by
 obtain ⟨k,m,s⟩:=v
 simp only
 by_cases h1:k=1
 ·subst h1
  cases hv:yab ⟨1,m,s⟩
  ·have HT:Hid (ybz ⟨1,m,s⟩= -1):=qL (by unfold ybz;rw [if_neg (by simp [hv])])
   have HV:=qL hv
   clear hv
   go_enter Tryz.func206,Tryz.ntmps206
   go_wp2_with fail
   refine (zm1 1 m s _).mono ?_
   rw [HV.out]
   rintro e w5 ⟨rfl,hb5⟩
   have HB:=qL (btr (zae _ _) hb5)
   clear hb5
   go_wp2
   go_ret
   exact ⟨zak HT.out.symm,HB.out⟩
  ·have HT:Hid (ybz ⟨1,m,s⟩=m):=qL (by unfold ybz;rw [if_pos ⟨rfl,hv⟩])
   have HV:=qL hv
   clear hv
   go_enter Tryz.func206,Tryz.ntmps206
   go_wp2_with fail
   refine (zm1 1 m s _).mono ?_
   rw [HV.out]
   rintro e w5 ⟨rfl,hb5⟩
   have z:w5.cell? ⟨w.heap.size,1,none⟩=some (.int .i64 m):=qM hb5 qH
   have HB:=qL (btr (zae _ _) hb5)
   clear hb5
   go_wp2
   go_ret
   exact ⟨zak HT.out.symm,HB.out⟩
 ·have HT:Hid (ybz ⟨k,m,s⟩= -1):=qL (by unfold ybz;rw [if_neg (fun h=>h1 h.1)])
  have h1':(k==1)=false:=by simpa using h1
  have h1n:(k !=1)=true:=by simpa using h1
  clear h1
  go_enter Tryz.func206,Tryz.ntmps206
  go_wp2
  go_ret
  exact ⟨zak HT.out.symm,zae _ _⟩
theorem yml (a b:Val)(d:Int)(hd:d=0∨d=1)(w:World):Calls Tryz.prog 275 #[.agg #[.int .i64 (a).k, .int .i64 (a).m, .string (a).s], .agg #[.int .i64 (b).k, .int .i64 (b).m, .string (b).s], .int .i64 d] w fun e w'=>e= .returned (.agg #[.int .i64 (yej a b d).k, .int .i64 (yej a b d).m, .string (yej a b d).s])/\Below w.heap.size w w':=by
 obtain ⟨x,hx⟩: ∃ x,x=ybz a:=⟨_,rfl⟩
 obtain ⟨y,hy⟩: ∃ y,y=ybz b:=⟨_,rfl⟩
 have HA:=qL fun W=>zjs a W
 have HB:=qL fun W=>zjs b W
 rw [<-hx] at HA
 rw [<-hy] at HB
 have HL:Hid (yej a b d=if x=d∨y=d then yb3 (d==1) else if x<0∨y<0 then zV else yb3 (d==0)):=qL (by rw [hx,hy];rfl)
 clear hx hy
 obtain ⟨r,hr⟩: ∃ r,r=yej a b d:=⟨_,rfl⟩
 have HRR:=qL hr
 rw [<-hr]
 clear hr
 obtain ⟨w0,hw0⟩: ∃ w0,w0=((w.alloc (.cells #[.int .i64 a.k, .int .i64 a.m, .string a.s] 46)).alloc (.cells #[.int .i64 b.k, .int .i64 b.m, .string b.s] 46)).alloc (.cells #[.int .i64 0, .int .i64 0, .string ⟨#[]⟩] 46):=⟨_,rfl⟩
 have hB0:Below w.heap.size w w0:=by rw [hw0];exact ((zae _ _).alloc qH _).alloc (by simp;omega) _
 have HB0:=qL hB0
 have a0:w0.cell? ⟨w.heap.size,0,none⟩=some (.int .i64 a.k):=by rw [hw0];exact qD
 have a1:w0.cell? ⟨w.heap.size,1,none⟩=some (.int .i64 a.m):=by rw [hw0];exact qD
 have a2:w0.cell? ⟨w.heap.size,2,none⟩=some (.string a.s):=by rw [hw0];exact qD
 have b0:w0.cell? ⟨w.heap.size+1,0,none⟩=some (.int .i64 b.k):=by rw [hw0];exact qD
 have b1:w0.cell? ⟨w.heap.size+1,1,none⟩=some (.int .i64 b.m):=by rw [hw0];exact qD
 have b2:w0.cell? ⟨w.heap.size+1,2,none⟩=some (.string b.s):=by rw [hw0];exact qD
 have z0:w0.cell? ⟨w.heap.size+2,0,none⟩=some (.int .i64 0):=by rw [hw0];exact qD
 have z1:w0.cell? ⟨w.heap.size+2,1,none⟩=some (.int .i64 0):=by rw [hw0];exact qD
 have z2:w0.cell? ⟨w.heap.size+2,2,none⟩=some (.string ⟨#[]⟩):=by rw [hw0];exact qD
 have zf: ∀ o,w0.frozen? ⟨w.heap.size+2,o,none⟩=false:=fun o=>by rw [hw0];exact qD
 have zs:w.heap.size+2<w0.heap.size:=by rw [hw0];first |(simp;done)|(simp;omega)
 have g0:=Gro.cell a0
 have g1:=Gro.cell a1
 have g2:=Gro.cell a2
 have g3:=Gro.cell b0
 have g4:=Gro.cell b1
 have g5:=Gro.cell b2
 clear hB0
 go_enter Tryz.func275,Tryz.ntmps275
 go_wp2_with fail
 rw [<-hw0]
 clear hw0 a0 a1 a2 b0 b1 b2
 refine zai qG qG ?_;(repeat (go_big_quiet_step ((go_at_call 206;with_reducible first |exact Calls.gro_of (HA.out _)|exact Calls.gro_of (HB.out _)))));refine wpQuiet_nil ?_;intro _ hw';obtain ⟨pq,hw''⟩:=hw';subst hw'';have hbq:=pq.below;revert hbq;generalize pq.world=wq;intro hbq
 clear g0 g1 g2 g3 g4 g5
 have z0:=qM hbq z0;have z1:=qM hbq z1;have z2:=qM hbq z2;have zf: ∀ o,wq.frozen? ⟨w.heap.size+2,o,none⟩=false:=(fun o=>(Below.frozen hbq (p:=⟨w.heap.size+2,o,none⟩) zs).trans (zf o));have zs:w.heap.size+2<wq.heap.size:=qQ zs (Below.size hbq)
 have HBQ:=qL (btr HB0.out hbq)
 clear hbq
 cases e1:(x==d)
 ·cases e2:(y==d)
  ·have h12: ¬ (x=d∨y=d):=by
    have k1: ¬ x=d:=by simpa using e1
    have k2: ¬ y=d:=by simpa using e2
    omega
   have HL2:Hid (yej a b d=if x<0∨y<0 then zV else yb3 (d==0)):=qL (by rw [HL.out,if_neg h12])
   clear h12
   by_cases n1:x<0
   ·have HE:Hid (r=zV):=qL (by rw [HRR.out,HL2.out,if_pos (.inl n1)])
    go_wp2
    exact bodyPost_ret (v:= .agg #[.int .i64 0, .int .i64 0, .string ⟨#[]⟩]) (by simp [results,Tryz.results275,go_sem,z0,z1,z2]) rfl ⟨by rw [HE.out];rfl,(((Below.setCell (HBQ.out) (p:=⟨_,0,none⟩) qE _).setCell (p:=⟨_,1,none⟩) qE _).setCell (p:=⟨_,2,none⟩) qE _)⟩
   ·have n1':decide (x<0)=false:=by simpa using n1
    by_cases n2:y<0
    ·have HE:Hid (r=zV):=qL (by rw [HRR.out,HL2.out,if_pos (.inr n2)])
     clear n1
     go_wp2
     exact bodyPost_ret (v:= .agg #[.int .i64 0, .int .i64 0, .string ⟨#[]⟩]) (by simp [results,Tryz.results275,go_sem,z0,z1,z2]) rfl ⟨by rw [HE.out];rfl,(((Below.setCell (HBQ.out) (p:=⟨_,0,none⟩) qE _).setCell (p:=⟨_,1,none⟩) qE _).setCell (p:=⟨_,2,none⟩) qE _)⟩
    ·have n2':decide (y<0)=false:=by simpa using n2
     have HE:Hid (r=yb3 (d==0)):=qL (by rw [HRR.out,HL2.out,if_neg qF])
     clear n1 n2
     go_wp2_with fail
     have HBO:=qL fun W=>zb8 (d==0) W
     rw [<-HE.out] at HBO
     refine (HBO.out _).mono ?_
     rintro e w5 ⟨rfl,hb5⟩
     have z0:=qM hb5 z0;have z1:=qM hb5 z1;have z2:=qM hb5 z2;have zf: ∀ o,w5.frozen? ⟨w.heap.size+2,o,none⟩=false:=(fun o=>(Below.frozen hb5 (p:=⟨w.heap.size+2,o,none⟩) zs).trans (zf o));have zs:w.heap.size+2<w5.heap.size:=qQ zs (Below.size hb5)
     have HB5:=qL (btr HBQ.out hb5)
     clear hb5
     go_wp2
     exact bodyPost_ret (v:= .agg #[.int .i64 (r).k, .int .i64 (r).m, .string (r).s]) (by simp [results,Tryz.results275,go_sem,z0,z1,z2]) rfl ⟨rfl,(((Below.setCell (HB5.out) (p:=⟨_,0,none⟩) qE _).setCell (p:=⟨_,1,none⟩) qE _).setCell (p:=⟨_,2,none⟩) qE _)⟩
  ·have HE:Hid (r=yb3 (d==1)):=qL (by rw [HRR.out,HL.out,if_pos (.inr (by simpa using e2))])
   go_wp2_with fail
   have HBO:=qL fun W=>zb8 (d==1) W
   rw [<-HE.out] at HBO
   refine (HBO.out _).mono ?_
   rintro e w5 ⟨rfl,hb5⟩
   have z0:=qM hb5 z0;have z1:=qM hb5 z1;have z2:=qM hb5 z2;have zf: ∀ o,w5.frozen? ⟨w.heap.size+2,o,none⟩=false:=(fun o=>(Below.frozen hb5 (p:=⟨w.heap.size+2,o,none⟩) zs).trans (zf o));have zs:w.heap.size+2<w5.heap.size:=qQ zs (Below.size hb5)
   have HB5:=qL (btr HBQ.out hb5)
   clear hb5
   go_wp2
   exact bodyPost_ret (v:= .agg #[.int .i64 (r).k, .int .i64 (r).m, .string (r).s]) (by simp [results,Tryz.results275,go_sem,z0,z1,z2]) rfl ⟨rfl,(((Below.setCell (HB5.out) (p:=⟨_,0,none⟩) qE _).setCell (p:=⟨_,1,none⟩) qE _).setCell (p:=⟨_,2,none⟩) qE _)⟩
 ·have HE:Hid (r=yb3 (d==1)):=qL (by rw [HRR.out,HL.out,if_pos (.inl (by simpa using e1))])
  go_wp2_with fail
  have HBO:=qL fun W=>zb8 (d==1) W
  rw [<-HE.out] at HBO
  refine (HBO.out _).mono ?_
  rintro e w5 ⟨rfl,hb5⟩
  have z0:=qM hb5 z0;have z1:=qM hb5 z1;have z2:=qM hb5 z2;have zf: ∀ o,w5.frozen? ⟨w.heap.size+2,o,none⟩=false:=(fun o=>(Below.frozen hb5 (p:=⟨w.heap.size+2,o,none⟩) zs).trans (zf o));have zs:w.heap.size+2<w5.heap.size:=qQ zs (Below.size hb5)
  have HB5:=qL (btr HBQ.out hb5)
  clear hb5
  go_wp2
  exact bodyPost_ret (v:= .agg #[.int .i64 (r).k, .int .i64 (r).m, .string (r).s]) (by simp [results,Tryz.results275,go_sem,z0,z1,z2]) rfl ⟨rfl,(((Below.setCell (HB5.out) (p:=⟨_,0,none⟩) qE _).setCell (p:=⟨_,1,none⟩) qE _).setCell (p:=⟨_,2,none⟩) qE _)⟩
theorem zls (x:Nod)(h0:0<=x.op)(h20:x.op<=20)(w:World):Calls Tryz.prog 237 #[.agg #[.int .i64 x.op, .int .i64 x.vk, .int .i64 x.vm, .string x.vs, .string x.nm, .int .i64 x.ar]] w fun e w'=>e= .returned (.int .i64 (arN x.op:Nat))/\Below w.heap.size w w':=by
 obtain ⟨op,vk,vm,vs,nm,ar⟩:=x
 simp only at h0 h20
 have hop:op=0∨op=1∨op=2∨op=3∨op=4∨op=5∨op=6∨op=7∨op=8∨op=9∨op=10∨op=11∨op=12∨op=13∨op=14∨op=15∨op=16∨op=17∨op=18∨op=19∨op=20:=by omega
 clear h0 h20
 rcases hop with rfl|rfl|rfl|rfl|rfl|rfl|rfl|rfl|rfl|rfl|rfl|rfl|rfl|rfl|rfl|rfl|rfl|rfl|rfl|rfl|rfl
 all_goals
  go_enter Tryz.func237,Tryz.ntmps237
  go_wp2
  go_ret
  exact ⟨rfl,zae _ _⟩
theorem znk : ∀ z∈zoneL,z.1∈knownN:=fun z hz=>by
 simp only [zoneL,List.mem_cons,List.not_mem_nil,or_false] at hz
 rcases hz with rfl|rfl|rfl<;>exact zeh qG
theorem ypp {cs:List Col}(x:Nod)(h:okN cs x)(hcs: ∀ c∈cs,c.nm∈knownN)(w:World)(hT:Tbs w):Calls Tryz.prog 236 #[.agg #[.int .i64 x.op, .int .i64 x.vk, .int .i64 x.vm, .string x.vs, .string x.nm, .int .i64 x.ar]] w fun e w'=>e= .returned (.bool true)/\Below w.heap.size w w':=by
 have HR:Hid (∀ y∈knownN,∀ W,Below w.heap.size w W->Calls Tryz.prog 234 #[.string y] W fun e w'=>e= .returned (.bool false)/\W=w'):=qL fun y hy W hb=>by
  have:=zjg y W (hT.later hb (qV _))
  rwa [zfd y hy] at this
 have HW:Hid (x.op=1->x.nm∈knownN):=qL fun h1=>h.name hcs h1
 have HZ:Hid (x.op=20->x.nm∈knownN/\ ∀ W,Calls Tryz.prog 147 #[.string x.nm] W fun e w'=>e= .returned (.bool true)/\Below W.heap.size W w'):=qL fun h1=>by
  obtain ⟨z,hz,e⟩:=h.day h1
  rw [e]
  exact ⟨znk z hz,fun W=>zgy (Ycr z hz).2 W⟩
 have HA:=qL (zls x h.lo h.hi)
 have HN:=qL h
 obtain ⟨op,vk,vm,vs,nm,ar⟩:=x
 have qe: ∀ (a b:Int) (s:ByteArray) (a' b':Int) (s':ByteArray) (W:World),(binOp .neq 46 (.agg #[.int .i64 a, .int .i64 b, .string s]) (.agg #[.int .i64 a', .int .i64 b', .string s'])).run Tryz.prog W= .ok (.bool (!(a==a'&&(b==b'&&s.toList==s'.toList)))) W:=yy0
 have e0:=h.ar
 simp only at e0
 subst e0
 clear h
 by_cases c0:op=0
 ·subst c0
  obtain ⟨e1,hv⟩:=HN.out.cst rfl
  simp only at e1 hv
  subst e1
  have HV:=qL hv
  clear hv
  go_enter Tryz.func236,Tryz.ntmps236
  go_wp2_with fail
  refine (zm1 vk vm vs _).mono ?_
  rw [HV.out]
  rintro e w5 ⟨rfl,hb5⟩
  have HB5:=qL (btr (zae _ _) hb5)
  clear hb5
  go_wp2
  go_ret
  exact ⟨rfl,HB5.out⟩
 ·obtain ⟨e1,e2,e3⟩:=HN.out.zero c0
  simp only at e1 e2 e3
  subst e1;subst e2;subst e3
  by_cases c1:op=1
  ·subst c1
   clear c0
   have HK:=qL (HW.out rfl)
   clear HW HZ HA
   go_enter Tryz.func236,Tryz.ntmps236
   go_wp2_with fail
   refine (yow nm _ (ze2 _ HK.out)).mono ?_
   rintro e w5 ⟨rfl,hb5⟩
   have z2:w5.cell? ⟨w.heap.size,4,none⟩=some (.string nm):=qM hb5 qH
   have HB5:=qL (btr (zae _ _) hb5)
   have HR5:=qL (HR.out nm HK.out w5 HB5.out)
   clear hb5
   go_wp2_with fail
   refine HR5.out.mono ?_
   rintro e w6 ⟨rfl,rfl⟩
   go_wp2
   go_ret
   exact ⟨rfl,HB5.out⟩
  ·by_cases c20:op=20
   ·subst c20
    clear c0 c1
    have HK:=qL (HZ.out rfl).1
    have HQ:=qL (HZ.out rfl).2
    clear HW HZ HA
    go_enter Tryz.func236,Tryz.ntmps236
    go_wp2_with fail
    refine (HQ.out _).mono ?_
    rintro e w5 ⟨rfl,hb5⟩
    have z2:w5.cell? ⟨w.heap.size,4,none⟩=some (.string nm):=qM hb5 qH
    have HB5:=qL (btr (zae _ _) hb5)
    have HR5:=qL (HR.out nm HK.out w5 HB5.out)
    clear hb5
    go_wp2_with fail
    refine HR5.out.mono ?_
    rintro e w6 ⟨rfl,rfl⟩
    go_wp2
    go_ret
    exact ⟨rfl,HB5.out⟩
   ·have e4:=HN.out.bare c0 c1 c20
    simp only at e4
    subst e4
    have d0:(op==0)=false:=by simpa using c0
    have d0':(op !=0)=true:=by simpa using c0
    have d1:(op==1)=false:=by simpa using c1
    have d2:(op==20)=false:=by simpa using c20
    have d3:(op==21)=false:=by have:=HN.out.hi;simp only at this;simp;omega
    have d3':(op !=21)=true:=by have:=HN.out.hi;simp only at this;simp;omega
    have d4:decide ((0:Int)<=(arN op:Int))=true:=by simp
    clear c0 c1 c20 HW HZ
    go_enter Tryz.func236,Tryz.ntmps236
    go_wp2_with fail
    refine (HA.out _).mono ?_
    rintro e w5 ⟨rfl,hb5⟩
    have HB5:=qL (btr (zae _ _) hb5)
    clear hb5
    go_wp2
    go_ret
    exact ⟨rfl,HB5.out⟩
theorem zk5 {α β:Type}{K:Kin α β}{W:World}{vA:Option Addr}{n:Nat}{l:List β}(h:rD K W vA n l)(rs:Nat)(hrs:rs<=n)(c:Nat)(hc:n<=c):rD K W (if c=rs then vA else vA.map (·.add (rs*K.C))) (n - rs) (l.drop rs):=by
 by_cases he:rs=n
 ·rw [he,Nat.sub_self,List.drop_eq_nil_of_le (Nat.le_of_eq h.len)]
  exact rD.nil _ _
 ·rw [if_neg qF]
  obtain ⟨b,off,e,_⟩:=h.opn qF
  rw [e,Option.map_some,zaw]
  exact h.drop rs qF e
theorem ym0 {cs:List Col}{t:Knd}(A:Option Addr)(n c:Nat)(p:List Nod)(w:World)(hX:okX cs p t)(h:rNod w A n p)(hT:Tbs w):Calls Tryz.prog 175 #[.slice A n c] w fun e w'=>e= .returned (.int .i64 0)/\Below w.heap.size w w':=by
 obtain ⟨iI,PI⟩:=Yc6
 have H:=qL h
 have HL:=qL h.len
 have HK:=qL hX.nod
 have HB:=qL hX.blk
 have HCS:=qL hX.names
 have HT:=qL hT
 have hn:n<=60:=by have:=h.len;have:=hX.len;omega
 clear h hX hT
 go_enter Tryz.func175,Tryz.ntmps175
 go_wp2
 go_loopw [3,15] (fun v i wr=> ∃ (k:Nat) (hs:List Int),k<=n/\i= .int .i64 k/\Below w.heap.size w wr/\Hid (Hts cs p k hs/\ ∀ x∈hs,0<=x)/\Hid (ownD kInt wr w.heap.size v hs.length hs)) (fun _ i _=>n - (intOf i).toNat)
 case atStart=>exact ⟨0,[],by omega,rfl,za0 _,qL ⟨⟨[],rfl,rfl,fun x h=>by cases h⟩,fun x h=>by cases h⟩,qL (ownD.nil _ _)⟩
 case round=>
  obtain ⟨k,hs,hkn,rfl,hbw,HH,HO⟩:=hrel
  obtain ⟨wz,rfl⟩: ∃ wz,wz=wr:=⟨_,rfl⟩
  have HBW:=qL hbw
  have HV0:Hid (∀ y,u3.ownBlock=some y->w.heap.size<=y):=qL fun y e=>(HO.out.lt y e).1
  obtain ⟨vA,vC,hv3,hvc,hrd,_⟩:=HO.out.rd
  subst hv3
  have hsl:hs.length<=k:=by
   obtain ⟨⟨ts,h1,h2,_⟩,_⟩:=HH.out
   have:=zdu h1
   rw [List.length_take] at this
   simp at this;omega
  by_cases hlt:k<n
  ·obtain ⟨b1,o1,rfl,hc1⟩:=H.out.opn qF
   obtain ⟨x,hx⟩:=zah (l:=p) (k:=k) (by have:=HL.out;omega)
   obtain ⟨x1,x2,x3,x4,x5,x6⟩:=hc1 k x hx
   obtain ⟨ha,hst⟩:=HH.out.1.step HB.out hx
   have HST:=qL hst
   have HX:=HK.out x (qP hx)
   have z1:=qM hbw x1
   have z2:=qM hbw x2
   have z3:=qM hbw x3
   have z4:=qM hbw x4
   have z5:=qM hbw x5
   have z6:=qM hbw x6
   obtain ⟨wa,hwa⟩: ∃ wa,wa=wz.alloc (.cells #[.int .i64 x.op, .int .i64 x.vk, .int .i64 x.vm, .string x.vs, .string x.nm, .int .i64 x.ar] 48):=⟨_,rfl⟩
   have hba:Below wz.heap.size wz wa:=by rw [hwa];exact zae _ _
   have k1:wa.cell? ⟨wz.heap.size,0,none⟩=some (.int .i64 x.op):=by rw [hwa];simp
   have k2:wa.cell? ⟨wz.heap.size,1,none⟩=some (.int .i64 x.vk):=by rw [hwa];simp
   have k3:wa.cell? ⟨wz.heap.size,2,none⟩=some (.int .i64 x.vm):=by rw [hwa];simp
   have k4:wa.cell? ⟨wz.heap.size,3,none⟩=some (.string x.vs):=by rw [hwa];simp
   have k5:wa.cell? ⟨wz.heap.size,4,none⟩=some (.string x.nm):=by rw [hwa];simp
   have k6:wa.cell? ⟨wz.heap.size,5,none⟩=some (.int .i64 x.ar):=by rw [hwa];simp
   have HBA:=qL (btr HBW.out hba)
   have HBZ:=qL hba
   have HF:=qL (ypp x HX HCS.out wa (HT.out.later HBA.out (qV _)))
   have HA:=qL fun W=>zls x HX.lo HX.hi W
   have d1:decide ((hs.length:Int)<(arN x.op:Int))=false:=by simp;omega
   obtain ⟨rs,hrs⟩: ∃ rs,rs=hs.length - arN x.op:=⟨_,rfl⟩
   obtain ⟨a,hae⟩: ∃ a,a=arN x.op:=⟨_,rfl⟩
   have hra:hs.length - rs=a:=by omega
   have hrl:rs<=hs.length:=by omega
   have e1:((hs.length:Int) - (a:Int))=(rs:Int):=by omega
   have HSL:Hid (∀ W,Below wz.heap.size wz W->rInt W (if vC=rs then vA else vA.map (·.add (rs*1))) a (hs.drop rs)):=qL fun W hb=>by
    have h:=zk5 (K:=kInt) hrd rs hrl vC hvc
    rw [hra] at h
    exact (zgl.1 h).later hb
   have HRD:Hid (∀ W,Below wz.heap.size wz W->rInt W vA hs.length hs):=qL fun W hb=>(zgl.1 hrd).later hb
   have HBD:Hid (∀ y∈hs.drop rs,0<=y/\y<=(k:Int)):=qL fun y hy=>by
    have hm:=List.mem_of_mem_drop hy
    obtain ⟨⟨_,_,_,h3⟩,h4⟩:=HH.out
    exact ⟨h4 y hm,h3 y hm⟩
   rw [<-hae] at ha d1
   rw [<-hrs] at HST
   have HAE:=qL hae
   have HOS:=qL (HO.out.short (k:=rs) qF)
   rw [<-hae] at HA
   clear hc1 hx x1 x2 x3 x4 x5 x6 hrd hst hbw HX hba hrs hae
   go_wp2_with fail
   rw [<-hwa]
   clear hwa z1 z2 z3 z4 z5 z6
   refine HF.out.mono ?_
   rintro e w2 ⟨rfl,hb2⟩
   have z1:=qM hb2 k1
   have z2:=qM hb2 k2
   have z3:=qM hb2 k3
   have z4:=qM hb2 k4
   have z5:=qM hb2 k5
   have z6:=qM hb2 k6
   have HB2:=qL (btr HBZ.out hb2)
   clear hb2 k1 k2 k3 k4 k5 k6
   go_wp2_with fail
   refine (HA.out _).mono ?_
   rintro e w3 ⟨rfl,hb3⟩
   have z1:=qM hb3 z1
   have z2:=qM hb3 z2
   have z3:=qM hb3 z3
   have z4:=qM hb3 z4
   have z5:=qM hb3 z5
   have z6:=qM hb3 z6
   have HB3:=qL (btr HB2.out hb3)
   clear hb3
   go_wp2_with fail
   refine (HA.out _).mono ?_
   rintro e w4 ⟨rfl,hb4⟩
   have HB4:=qL (btr HB3.out hb4)
   clear hb4 z1 z2 z3 z4 z5 z6
   have hpl:(hs.drop rs).length=a:=by rw [List.length_drop];exact hra
   have HPL:=qL hpl
   clear hpl
   by_cases hck:vC=rs
   ·have HA0:Hid (a=0):=qL qF
    have hck2:=hck.symm
    clear hck
    subst hck2
    go_wp2
    go_loopw [7,38] (fun hv jv wr=> ∃ (j:Nat) (y:Int),j<=a/\jv= .int .i64 j/\hv= .int .i64 y/\1<=y/\y<=(k:Int)+1/\wr=w4) (fun _ jv _=>a - (intOf jv).toNat)
    case atStart=>exact ⟨0,1,by omega,rfl,rfl,by omega,by omega,by first |rfl|trivial⟩
    case round=>
     obtain ⟨j,y,hj,rfl,rfl,hy1,hyk,rfl⟩:=hrel
     by_cases hja:j<a
     ·exact absurd hja (by have:=HA0.out;omega)
     ·obtain rfl:j=a:=by omega
      have d2:decide ((64:Int)<y)=false:=by simp;omega
      obtain ⟨wv,hwv⟩: ∃ wv,wv=wr:=⟨_,rfl⟩
      have HOP:=qL ((HOS.out.later HB4.out).later (zae wr (.cells #[.int .i64 y] 3)))
      have hsz5:w.heap.size<=(wr.alloc (.cells #[.int .i64 y] 3)).heap.size:=qR HBW.out.size (qR HB4.out.size (zae _ _).size)
      have hnn:rs<1000000:=by omega
      have HV1:Hid (∀ q,(Value.slice vA rs rs).ownBlock=some q->w.heap.size<=q):=qL fun q e=>HV0.out q (by rw [zcd _ _ rs _];exact e)
      go_wp2_with (at_builtin;refine zaq _ rfl _ _ rfl PI HOP.out ⟨_,0,none⟩ y y rfl rfl zd5 rfl (fun p hp=>by cases hp) hnn hsz5 ?_;intro v' w' hown' hgrow hat)
      have HBF:=qL (zaf ((btr HBW.out HB4.out).alloc (btr HBW.out HB4.out).size _) hgrow HV1.out)
      have HOF:=qL (za2 hown' (l':=hs.take rs++ [y]) rfl)
      have HHF:Hid (Hts cs p (k+1) (hs.take rs++ [y])/\ ∀ x∈hs.take rs++ [y],0<=x):=qL ⟨HST.out y hyk,fun z hz=>by
       rcases List.mem_append.1 hz with hz|hz
       ·exact HH.out.2 z (List.mem_of_mem_take hz)
       ·rw [List.mem_singleton] at hz;omega⟩
      clear hown' hgrow hat
      go_wp2
      go_roundw
      case rel=>exact ⟨k+1,_,by omega,by go_num,HBF.out,HHF,HOF⟩
      case measure=>simp [intOf];omega
   ·skip
    go_wp2
    go_loopw [7,38] (fun hv jv wr=> ∃ (j:Nat) (y:Int),j<=a/\jv= .int .i64 j/\hv= .int .i64 y/\1<=y/\y<=(k:Int)+1/\wr=w4) (fun _ jv _=>a - (intOf jv).toNat)
    case atStart=>exact ⟨0,1,by omega,rfl,rfl,by omega,by omega,by first |rfl|trivial⟩
    case round=>
     obtain ⟨j,y,hj,rfl,rfl,hy1,hyk,rfl⟩:=hrel
     by_cases hja:j<a
     ·obtain ⟨b2,o2,rfl,hc2⟩:=(HRD.out _ HB4.out).opn qF
      obtain ⟨q,hq⟩:=zah (l:=hs.drop rs) (k:=j) (by have:=HPL.out;omega)
      have hq2:hs[rs+j]?=some q:=by rw [<-List.getElem?_drop];exact hq
      have q1:=hc2 (rs+j) q hq2
      rw [<-Nat.add_assoc] at q1
      obtain ⟨g1,g2⟩:=HBD.out q (qP hq)
      have hw:IntKind.i64.wrap (1+q)=1+q:=by rw [IntKind.wrap_i64];omega
      clear hc2 hq hq2
      go_wp2
      go_roundw
      case rel=>exact ⟨j+1,max y (1+q),by omega,by go_num,by first |rfl|simp,by omega,by omega,by first |rfl|trivial⟩
      case measure=>simp [intOf];omega
     ·obtain rfl:j=a:=by omega
      have d2:decide ((64:Int)<y)=false:=by simp;omega
      obtain ⟨wv,hwv⟩: ∃ wv,wv=wr:=⟨_,rfl⟩
      have HOP:=qL ((HOS.out.later HB4.out).later (zae wr (.cells #[.int .i64 y] 3)))
      have hsz5:w.heap.size<=(wr.alloc (.cells #[.int .i64 y] 3)).heap.size:=qR HBW.out.size (qR HB4.out.size (zae _ _).size)
      have hnn:rs<1000000:=by omega
      have HV1:Hid (∀ q,(Value.slice vA rs vC).ownBlock=some q->w.heap.size<=q):=qL fun q e=>HV0.out q (by rw [zcd _ _ rs _];exact e)
      go_wp2_with (at_builtin;refine zaq _ rfl _ _ rfl PI HOP.out ⟨_,0,none⟩ y y rfl rfl zd5 rfl (fun p hp=>by cases hp) hnn hsz5 ?_;intro v' w' hown' hgrow hat)
      have HBF:=qL (zaf ((btr HBW.out HB4.out).alloc (btr HBW.out HB4.out).size _) hgrow HV1.out)
      have HOF:=qL (za2 hown' (l':=hs.take rs++ [y]) rfl)
      have HHF:Hid (Hts cs p (k+1) (hs.take rs++ [y])/\ ∀ x∈hs.take rs++ [y],0<=x):=qL ⟨HST.out y hyk,fun z hz=>by
       rcases List.mem_append.1 hz with hz|hz
       ·exact HH.out.2 z (List.mem_of_mem_take hz)
       ·rw [List.mem_singleton] at hz;omega⟩
      clear hown' hgrow hat
      go_wp2
      go_roundw
      case rel=>exact ⟨k+1,_,by omega,by go_num,HBF.out,HHF,HOF⟩
      case measure=>simp [intOf];omega
  ·obtain rfl:k=n:=by omega
   have hone:hs.length=1:=by
    obtain ⟨⟨ts,h1,h2,_⟩,_⟩:=HH.out
    rw [List.take_of_length_le (by have:=HL.out;omega),HB.out []] at h1
    cases h1
    exact h2
   have d3:((hs.length:Int)==1)=true:=by simp [hone]
   have d4:((hs.length:Int) !=1)=false:=by simp [hone]
   clear hone hrd
   go_wp2
   go_ret
   exact ⟨zak rfl,hbw⟩
def ylz (nm:ByteArray)(z:Zon):Bool:=z.nm.toList==nm.toList
theorem yrl (x:Zon)(B:Nat)(nm:ByteArray)(w:World)(hc:w.cell? ⟨B,0,none⟩=some (.string nm)):
 Calls Tryz.prog 298 #[.agg #[.string x.nm, .int .i64 x.off, .slice x.shA x.shN x.shC], .pointer (some ⟨B,0,none⟩)] w fun e w'=>e= .returned (.bool (ylz nm x))/\Below w.heap.size w w':=by
 have hc':=qM (zae w (.cells #[.string x.nm, .int .i64 x.off, .slice x.shA x.shN x.shC] 80)) hc
 go_enter Tryz.func298,Tryz.ntmps298
 go_wp2
 go_ret
 exact ⟨zal (by simp [ylz]),zae _ _⟩
theorem zku (cB:Nat)(p:Zon->Bool)(A:Option Addr)(n c:Nat)(l:List Zon)(w:World)(h:rZon w A n l)(hn:n<=100000)
 (hG: ∀ (W:World) (x:Zon),Below w.heap.size w W->x∈l->Calls Tryz.prog 298 #[.agg #[.string x.nm, .int .i64 x.off, .slice x.shA x.shN x.shC], .pointer (some ⟨cB,0,none⟩)] W fun e w'=>e= .returned (.bool (p x))/\Below W.heap.size W w'):
 Calls Tryz.prog 297 #[.slice A n c, .func (.func 298) #[] #[.pointer (some ⟨cB,0,none⟩)]] w fun e w'=>e= .returned (.int .i64 (yd8 p l))/\Below w.heap.size w w':=by
 have HA:=qL h
 have LA:=qL h.len
 have HG:=qL hG
 clear h hG
 go_enter Tryz.func297,Tryz.ntmps297
 go_wp2
 go_loopw [8] (fun i wr=> ∃ k:Nat,k<=n/\i= .int .i64 k/\Below w.heap.size w wr/\Hid (NoneTo p l k)) (fun i _=>n - (intOf i).toNat)
 case atStart=>exact ⟨0,by omega,rfl,za0 _,qL fun j _ hj=>absurd hj qF⟩
 case round=>
  obtain ⟨k,hk,rfl,hbw,HS⟩:=hrel
  have HBW:=qL hbw
  by_cases h1:k<n
  ·obtain ⟨b1,o1,rfl,hc1⟩:=(HA.out.later hbw).opn qF
   obtain ⟨x,hx⟩:=zah (l:=l) (k:=k) (by have:=LA.out;omega)
   have hcells:=hc1 k x hx
   have HX:=qL hx
   have HC:=qL (HG.out wr x hbw (qP hx))
   clear hc1 hx hbw
   (repeat (obtain ⟨_,hcells⟩:=hcells))
   cases hz:p x
   ·have HZ:=qL hz
    go_wp2_with fail
    refine HC.out.mono ?_
    rintro e w2 ⟨rfl,hb2⟩
    have HB2:=qL (btr HBW.out hb2)
    clear hb2
    go_wp2
    go_roundw
    case rel=>exact ⟨k+1,by omega,by go_num,HB2.out,qL (HS.out.succ HX.out HZ.out)⟩
    case measure=>simp [intOf];omega
   ·have HZ:=qL hz
    go_wp2_with fail
    refine HC.out.mono ?_
    rintro e w2 ⟨rfl,hb2⟩
    have HB2:=qL (btr HBW.out hb2)
    clear hb2
    go_wp2
    go_ret
    exact ⟨zak (zck HS.out HX.out HZ.out).symm,HB2.out⟩
  ·go_wp2
   go_ret
   exact ⟨zak (zcw (fun j y hy=>HS.out j y (by have:=LA.out;have:=(qO hy).1;omega) hy)).symm,hbw⟩
theorem zqu {w:World}{A:Option Addr}{n:Nat}(h:rZns w A n){y:ByteArray × Int × List Shf}(hy:y∈zoneL): ∃ (zs:List Zon) (j:Nat) (z:Zon),rZon w A n zs/\yd8 (ylz y.1) zs=j/\zs[j]?=some z/\z.nm=y.1/\z.off=y.2.1/\rShf w z.shA z.shN y.2.2:=by
 obtain ⟨zs,h1,h2⟩:=h
 match zs,h2 with
 | [z0,z1,z2],⟨⟨a1,a2,a3⟩,⟨b1,b2,b3⟩,⟨c1,c2,c3⟩,_⟩=>
  have a1:z0.nm=⟨#[122,48]⟩:=a1
  have b1:z1.nm=⟨#[122,49]⟩:=b1
  have c1:z2.nm=⟨#[122,50]⟩:=c1
  have miss: ∀ (a b:ByteArray) (z:Zon),z.nm=a->(a.toList==b.toList)=false->ylz b z=false:=fun a b z e h=>by unfold ylz;rw [e];exact h
  have hit: ∀ (a:ByteArray) (z:Zon),z.nm=a->ylz a z=true:=fun a z e=>by unfold ylz;rw [e];simp
  simp only [zoneL,List.mem_cons,List.not_mem_nil,or_false] at hy
  rcases hy with rfl|rfl|rfl
  ·exact ⟨_,0,z0,h1,zck (x:=z0) (fun j y hj=>absurd hj qF) rfl (hit _ _ a1),rfl,a1,a2,a3⟩
  ·refine ⟨_,1,z1,h1,zck (x:=z1) (fun j y hj hy=>?_) rfl (hit _ _ b1),rfl,b1,b2,b3⟩
   obtain rfl:j=0:=by omega
   cases hy
   exact miss _ _ _ a1 (by simp [ByteArray.toList_eq])
  ·refine ⟨_,2,z2,h1,zck (x:=z2) (fun j y hj hy=>?_) rfl (hit _ _ c1),rfl,c1,c2,c3⟩
   have:j=0∨j=1:=by omega
   rcases this with rfl|rfl
   ·cases hy
    exact miss _ _ _ a1 (by simp [ByteArray.toList_eq])
   ·cases hy
    exact miss _ _ _ b1 (by simp [ByteArray.toList_eq])
theorem zow (A:Option Addr)(n c:Nat)(zs:List Zon)(nm:ByteArray)(j:Nat)(r:Zon)(w:World)(h:rZon w A n zs)(hn:n<=100000)(hj:yd8 (ylz nm) zs=j)(hr:zs[j]?=some r):
 Calls Tryz.prog 273 #[.slice A n c, .string nm] w fun e w'=>e= .returned (.tuple #[.agg #[.string r.nm, .int .i64 r.off, .slice r.shA r.shN r.shC], .bool true])/\Below w.heap.size w w':=by
 have HI:Hid (Calls Tryz.prog 297 #[.slice A n c, .func (.func 298) #[] #[.pointer (some ⟨w.heap.size,0,none⟩)]] ((w.alloc (.cells #[.string nm] 9)).alloc (.cells #[.string ⟨#[]⟩, .int .i64 0, .slice none 0 0] 80)) fun e w'=>e= .returned (.int .i64 (j:Int))/\Below _ _ w'):=qL (by
  have:=zku w.heap.size (ylz nm) A n c zs ((w.alloc (.cells #[.string nm] 9)).alloc (.cells #[.string ⟨#[]⟩, .int .i64 0, .slice none 0 0] 80)) (h.later ((zae _ _).alloc qH _)) hn (fun W x hb _=>yrl x w.heap.size nm W (qM hb qD))
  rw [hj] at this;exact this)
 have hjn:j<n:=by have:=(qO hr).1;have:=h.len;omega
 obtain ⟨b1,o1,rfl,hc1⟩:=h.opn qF
 obtain ⟨x1,x2,x3⟩:=hc1 j r hr
 have i0:(0:Int)<=(j:Int):=by omega
 have i1:(j:Int)<(n:Int):=by omega
 clear h hj hr hc1
 go_enter Tryz.func273,Tryz.ntmps273
 go_wp2_with fail
 refine HI.out.mono ?_
 rintro e w1 ⟨rfl,hb1⟩
 have hbA:=btr ((zae w (.cells #[.string nm] 9)).alloc qH (.cells #[.string ⟨#[]⟩, .int .i64 0, .slice none 0 0] 80)) hb1
 have HBA:=qL hbA
 have y1:=qM hbA x1
 have y2:=qM hbA x2
 have y3:=qM hbA x3
 have r0:w1.cell? ⟨w.heap.size+1,0,none⟩=some (.string ⟨#[]⟩):=qM hb1 qD
 have r1:w1.cell? ⟨w.heap.size+1,1,none⟩=some (.int .i64 0):=qM hb1 qD
 have r2:w1.cell? ⟨w.heap.size+1,2,none⟩=some (.slice none 0 0):=qM hb1 qD
 have hf1: ∀ o,w1.frozen? ⟨w.heap.size+1,o,none⟩=false:=fun o=>by rw [hb1.frozen (p:=⟨w.heap.size+1,o,none⟩) qH];(repeat (first |(refine zaa ?_ rfl;(simp;done))|(refine zad ?_;(simp;done))|(refine zac ?_ ?_;(focus first |(simp;done)|(simp;omega)))|(refine zab ?_ ?_;(focus first |(simp;done)|(simp;omega)))))
 clear hb1 hbA x1 x2 x3 HI
 go_wp2
 refine bodyPost_ret (v:= .tuple #[.agg #[.string r.nm, .int .i64 r.off, .slice r.shA r.shN r.shC], .bool true]) (by simp [results,Tryz.results273,go_sem,r0,r1,r2]) rfl ⟨rfl,?_⟩
 (repeat (first |exact HBA.out|(refine Below.setCell ?_ qE _)|(refine Below.alloc ?_ qE _)))
theorem zpb (t off:Int)(w:World)(h0:0<=t)(h1:t<=575999999)(o1: -840<=off)(o2:off<=840):Calls Tryz.prog 330 #[.int .i64 t, .int .i64 off] w fun e w'=>e= .returned (.int .i64 (ygy t off))/\w=w':=by
 have hw:IntKind.i64.wrap (t+off)=t+off:=by rw [IntKind.wrap_i64];omega
 by_cases h:t+off<0
 ·have HV:Hid (ygy t off= -1):=qL (by unfold ygy;rw [if_pos h])
  go_enter Tryz.func330,Tryz.ntmps330
  go_wp2
  go_ret
  exact ⟨zak HV.out.symm,rfl⟩
 ·have HV:Hid (ygy t off=(t+off) / 1440):=qL (by unfold ygy;rw [if_neg h])
  have h':decide (t+off<0)=false:=by simpa using h
  have hq:(t+off).tdiv 1440=(t+off) / 1440:=Int.tdiv_eq_ediv_of_nonneg qF
  have hw2:IntKind.i64.wrap ((t+off) / 1440)=(t+off) / 1440:=by rw [IntKind.wrap_i64];omega
  clear h
  go_enter Tryz.func330,Tryz.ntmps330
  go_wp2
  go_ret
  exact ⟨zak HV.out.symm,rfl⟩
theorem yrs (z:Zon)(l:List Shf)(t:Int)(w:World)(h:rShf w z.shA z.shN l)(hok:yga l)(hn:z.shN<=64)(h1: -840<=z.off)(h2:z.off<=840)(t0:0<=t)(t1:t<=575999999):
 Calls Tryz.prog 306 #[.agg #[.string z.nm, .int .i64 z.off, .slice z.shA z.shN z.shC], .int .i64 t] w fun e w'=>e= .returned (.int .i64 (yd0 t l 0 z.off))/\Below w.heap.size w w':=by
 obtain ⟨nm,off,A,n,c⟩:=z
 simp only at h hn h1 h2 ⊢
 have HT:=qL h
 have HL:=qL h.len
 have HK:=qL hok
 clear h hok
 go_enter Tryz.func306,Tryz.ntmps306
 go_wp2_with fail
 go_quiet (fail)
 go_wp2
 go_loopw [5,6,14] (fun bv ov i wr=> ∃ (k:Nat) (b o:Int),k<=n/\i= .int .i64 k/\bv= .int .i64 b/\ov= .int .i64 o/\ -840<=o/\o<=840/\Hid (yd0 t (l.drop k) b o=yd0 t l 0 off)/\Below w.heap.size w wr) (fun _ _ i _=>n - (intOf i).toNat)
 case atStart=>exact ⟨0,0,off,by omega,rfl,rfl,rfl,h1,h2,qL rfl,za6 (zae _ _) _⟩
 case round=>
  obtain ⟨k,b,o,hk,rfl,rfl,rfl,ho1,ho2,HF,hbw⟩:=hrel
  have HBW:=qL hbw
  by_cases hlt:k<n
  ·obtain ⟨b1,o1,rfl,hc1⟩:=HT.out.opn qF
   obtain ⟨x,hx⟩:=zah (l:=l) (k:=k) (by have:=HL.out;omega)
   obtain ⟨x1,x2⟩:=hc1 k x hx
   obtain ⟨q1,q2,q3,q4⟩:=HK.out.1 x (qP hx)
   have y1:=qM hbw x1
   have y2:=qM hbw x2
   have HD:Hid (l.drop k=x::l.drop (k+1)):=qL (by
    have hlt2:=(qO hx).1
    rw [List.drop_eq_getElem_cons hlt2]
    congr 1
    exact (qO hx).2)
   by_cases hs:t<x.pos
   ·have HR:Hid (yd0 t l 0 off=max b (ygy t o)):=qL (by rw [<-HF.out,HD.out,yd0,if_pos hs])
    clear hc1 hx hbw x1 x2
    go_wp2_with (go_at_call 330;refine (zpb _ _ _ t0 t1 ho1 ho2).mono ?_;rintro e w' ⟨rfl,rfl⟩)
    go_ret
    exact ⟨zak HR.out.symm,HBW.out.alloc HBW.out.size _⟩
   ·have hs':decide (t<x.pos)=false:=by simpa using hs
    have HR:Hid (yd0 t (l.drop (k+1)) (max b (ygy (x.pos - 1) o)) x.off=yd0 t l 0 off):=qL (by rw [<-HF.out,HD.out,yd0,if_neg hs])
    have hw:IntKind.i64.wrap (x.pos - 1)=x.pos - 1:=by rw [IntKind.wrap_i64];omega
    have HLO:=qL fun W=>zpb (x.pos - 1) o W qF qF ho1 ho2
    clear hc1 hx hbw x1 x2 hs
    go_wp2_with fail
    go_region_with (go_at_call 330;refine (HLO.out _).mono ?_;rintro e w' ⟨rfl,rfl⟩)
    all_goals
     go_wp2
     go_roundw
     case rel=>exact ⟨k+1,_,_,by omega,by go_num,rfl,rfl,q3,q4,HR,by first |exact HBW.out.alloc HBW.out.size _|exact (HBW.out.alloc HBW.out.size _).drew⟩
     case measure=>simp [intOf];omega
  ·obtain rfl:k=n:=by omega
   have HR:Hid (yd0 t l 0 off=max b (ygy t o)):=qL (by rw [<-HF.out,List.drop_eq_nil_of_le (by have:=HL.out;omega),yd0])
   go_wp2_with (go_at_call 330;refine (zpb _ _ _ t0 t1 ho1 ho2).mono ?_;rintro e w' ⟨rfl,rfl⟩)
   go_ret
   exact ⟨zak HR.out.symm,hbw⟩
theorem yqf (z:Zon)(l:List Shf)(t:Int)(w:World)(h:rShf w z.shA z.shN l)(hok:yga l)(hn:z.shN<=64)(h1: -840<=z.off)(h2:z.off<=840)(t0:0<=t)(t1:t<=575999999):
 Calls Tryz.prog 305 #[.agg #[.string z.nm, .int .i64 z.off, .slice z.shA z.shN z.shC], .int .i64 t] w fun e w'=>e= .returned (.int .i64 0)/\Below w.heap.size w w':=by
 have H:=qL (Yi4 z l (w.alloc (.cells #[.string z.nm, .int .i64 z.off, .slice z.shA z.shN z.shC] 80)) (h.later (zae _ _)) hok hn h1 h2)
 have d1:decide (t<0)=false:=by simp;omega
 have d2:decide (575999999<t)=false:=by simp;omega
 clear h hok
 go_enter Tryz.func305,Tryz.ntmps305
 go_wp2_with fail
 refine H.out.mono ?_
 rintro e w5 ⟨rfl,hb5⟩
 have HB:=qL (btr (zae _ _) hb5)
 clear hb5
 go_wp2
 go_ret
 exact ⟨zak rfl,HB.out⟩
theorem dayX (z:Zon)(l:List Shf)(t:Int)(w:World)(h:rShf w z.shA z.shN l)(hok:yga l)(hn:z.shN<=64)(h1: -840<=z.off)(h2:z.off<=840)(t0:0<=t)(t1:t<=575999999):
 Calls Tryz.prog 280 #[.agg #[.string z.nm, .int .i64 z.off, .slice z.shA z.shN z.shC], .int .i64 t] w fun e w'=>e= .returned (.tuple #[.int .i64 (yd0 t l 0 z.off), .int .i64 0])/\Below w.heap.size w w':=by
 have H1:=qL (yqf z l t (w.alloc (.cells #[.string z.nm, .int .i64 z.off, .slice z.shA z.shN z.shC] 80)) (h.later (zae _ _)) hok hn h1 h2 t0 t1)
 have H2:=qL fun W (hb:Below w.heap.size w W)=>yrs z l t W (h.later hb) hok hn h1 h2 t0 t1
 clear h hok
 go_enter Tryz.func280,Tryz.ntmps280
 go_wp2_with fail
 refine H1.out.mono ?_
 rintro e w5 ⟨rfl,hb5⟩
 have z0:w5.cell? ⟨w.heap.size,0,none⟩=some (.string z.nm):=qM hb5 qH
 have z1:w5.cell? ⟨w.heap.size,1,none⟩=some (.int .i64 z.off):=qM hb5 qH
 have z2:w5.cell? ⟨w.heap.size,2,none⟩=some (.slice z.shA z.shN z.shC):=qM hb5 qH
 have HB:=qL (btr (zae _ _) hb5)
 clear hb5
 go_wp2_with fail
 refine (H2.out _ HB.out).mono ?_
 rintro e w6 ⟨rfl,hb6⟩
 have HB6:=qL (btr HB.out hb6)
 clear hb6
 go_wp2
 go_ret2
 exact ⟨rfl,HB6.out⟩
end
end
end Go.Proofs.YthcalfeoejdcgaaGreatDoor
