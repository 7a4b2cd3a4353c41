import Derived.Shelf.SlSortCmp.NoneTotal
import Derived.Deep.AppendLies
import Derived.Maps.OwnSet
import Derived.Test.YthcalfeoejdcgaaGreatDoorK08
import Derived.Deep.RegionLaw
import Derived.Shelf.SlicesQ.Reverse
import Derived.Ground.SlgnProg
namespace Go.Proofs.YthcalfeoejdcgaaGreatDoor
set_option linter.unusedSimpArgs false
set_option linter.unusedVariables false
set_option maxRecDepth 100000
set_option maxHeartbeats 20000000
section
section
open Go.RowKit Go.BigFrame
def PutR (B:Nat)(v:Value)(k:Nat)(lo:Tab)(w:World)(e:Ending)(w':World):Prop:=
 ∃ v',e= .returned (.tuple #[v', .bool true])/\ownD (ybb B) w' B v' k lo/\w.grownBy w' v.ownBlock
theorem putE (B:Nat)(v:Value)(k:Nat)(lo:Tab)(rA:Option Addr)(rN rC:Nat)(r:List Val)(m:Int)(w:World)(ho:ownD (ybb B) w B v k lo)(hr:rVal w rA rN r)(h12:rN<=12)(h1:0<m)(h2:m<=65536)(hB:B<=w.heap.size)(hk:k<1000000):
 Calls Tryz.prog 43 #[v, .slice rA rN rC, .int .i64 m] w (PutR B v (k+1) (lo++ [(r,m)]) w):=by
 obtain ⟨iE,PE⟩:=zpw B
 have d1:decide (m< -65536)=false:=by simp;omega
 have d2:decide (65536<m)=false:=by simp;omega
 have d3:(m !=0)=true:=by simp;omega
 have hv0: ∀ j,v.ownBlock=some j->B<=j/\j<w.heap.size:=ho.lt
 have HV0:=qL hv0
 have HR:=qL (yjd rA rN rC r w (zb4.2 hr) qF)
 obtain ⟨vA,vc,rfl,_,_,_⟩:=ho.rd
 have HO:=qL ho
 clear hr ho hv0
 go_enter Tryz.func43,Tryz.ntmps43
 go_wp2_with fail
 refine HR.out.mono ?_
 rintro e w1 ⟨A1,c1,rfl,hrd1,hcc1,hb1,hfr1,_⟩
 have HB1:=qL hb1
 have HF1:=qL (zb3 (n:=rN) (w1:=w) (fun k e=>(HV0.out k e).2) (fun a e=>(hfr1 a e).1))
 have HF2:Hid (∀ a,A1=some a->B<=a.block):=qL (fun a e=>qR hB (hfr1 a e).1)
 have HF3:Hid (ownD (ybb B) (w1.alloc (.cells #[.slice A1 rN c1, .int .i64 m] 65)) B (.slice vA k vc) k lo):=qL (HO.out.later (HB1.out.alloc HB1.out.size _))
 have HF4:=qL (zb4.1 (hrd1.later (zae _ (.cells #[.slice A1 rN c1, .int .i64 m] 65))))
 have HSZ:Hid (B<=(w1.alloc (.cells #[.slice A1 rN c1, .int .i64 m] 65)).heap.size):=qL (qR hB (qR HB1.out.size (zae _ _).size))
 have HG1:Hid (w.grownBy (w1.alloc (.cells #[.slice A1 rN c1, .int .i64 m] 65)) (Value.slice vA k vc).ownBlock):=qL (by
  have hb:=HB1.out.alloc HB1.out.size (.cells #[.slice A1 rN c1, .int .i64 m] 65)
  exact ⟨hb.os,hb.tape,hb.output,hb.size,fun k hk _=>hb.block k hk⟩)
 clear hrd1 hfr1 hb1
 go_wp2_with (at_builtin;refine zaq _ rfl _ _ rfl PE HF3.out ⟨_,0,none⟩ ⟨A1,rN,c1,m⟩ (r,m) rfl rfl (zan _ _ _ _ _ _) ⟨⟨HF4.out,rfl⟩,fun _ a e=>HF2.out a e⟩ HF1.out hk HSZ.out ?_;intro v' w' hown' hgrow hat)
 have HOF:=qL hown'
 have HGF:Hid (w.grownBy w' (Value.slice vA k vc).ownBlock):=qL ⟨hgrow.os.trans HG1.out.os,hgrow.tape.trans HG1.out.tape,hgrow.output.trans HG1.out.output,qR HG1.out.size hgrow.size,fun k hk hne=>(hgrow.block k (qQ hk HG1.out.size) hne).trans (HG1.out.block k hk hne)⟩
 clear hown' hgrow hat
 go_wp2
 go_ret2
 exact ⟨v',rfl,HOF.out,HGF.out⟩
def SumTo (s:Tab)(k:Nat)(lo:Tab):Prop:=Bag lo/\(∀ r,cnt lo r=cnt (s.take k) r)/\(∀ x∈lo,∃ y∈s.take k,y.1=x.1)/\(∀ (i j:Nat) p x,i<k->k<=j->s[i]?=some p->s[j]?=some x->yag p.1 x.1<0)/\lo.length<=k
theorem SumTo.nil (s:Tab):SumTo s 0 []:=⟨⟨trivial,fun x h=>(by cases h)⟩,fun r=>rfl,fun x h=>(by cases h),fun i j p x h=>absurd h qF,by simp⟩
theorem zlt : ∀ {l:Tab} {x:List Val × Int} (_:Asc l) (_: ∀ y∈l,yag y.1 x.1<0),Asc (l++ [x])
 | [],x,_,_=>⟨fun y h=>(by cases h),trivial⟩
 |z::l,x,h,hx=>⟨fun y hy=>by
  rcases List.mem_append.1 hy with hy|hy
  ·exact h.1 y hy
  ·simp at hy;subst hy;exact hx z (List.mem_cons_self ..),zlt h.2 fun y hy=>hx y (qW _ hy)⟩
theorem zlx {r0:List Val}: ∀ {l:Tab} (_: ∀ x∈l,x.1=r0) (r:List Val),cnt l r=if yag r0 r=0 then yac l else 0
 | [],_,r=>by simp [cnt,yac]
 |x::l,h,r=>by
  rw [cnt,zlx (fun y hy=>h y (qW _ hy)) r,h x (List.mem_cons_self ..),yac]
  split<;>omega
theorem zod {a b c:List Val}(h1:yag a b<0)(h2: ¬ yag c b<0):yag a c<0:=by
 have f:=zbs b c
 by_cases e:yag b c=0
 ·rw [<-(zar _ _).1 e];exact h1
 ·exact zbi _ _ _ h1 qF
def yc4 (s:Tab)(i k:Nat):Int:=yac ((s.drop i).take (k - i))
theorem zi6 (s:Tab)(i:Nat):yc4 s i i=0:=by unfold yc4;rw [Nat.sub_self];rfl
theorem zi7 {s:Tab}{i k:Nat}{x:List Val × Int}(h:i<=k)(hx:s[k]?=some x):yc4 s i (k+1)=yc4 s i k+x.2:=by
 unfold yc4
 rw [show k+1 - i=(k - i)+1 by omega,zbc (x:=x) (by rw [List.getElem?_drop,show i+(k - i)=k by omega];exact hx),zbb]
 simp [yac]
theorem zbp : ∀ {l:Tab} (_: ∀ x∈l,0<x.2),0<=yac l
 | [],_=>by simp [yac]
 |x::l,h=>by have:=h x (List.mem_cons_self ..);have:=zbp fun y hy=>h y (qW _ hy);rw [yac];omega
theorem zqj {a b:Tab}(h:a.Perm b):yac a=yac b:=by
 induction h with
 |nil=>rfl
 |cons x _ ih=>rw [yac,yac,ih]
 |swap x y l=>simp only [yac];omega
 |trans _ _ h1 h2=>rw [h1,h2]
theorem zh7 {s:Tab}(h: ∀ x∈s,0<x.2)(i k:Nat):0<=yc4 s i k/\yc4 s i k<=yac s:=by
 have h1: ∀ x∈(s.drop i).take (k - i),0<x.2:=fun x hx=>h x (List.mem_of_mem_drop (List.mem_of_mem_take hx))
 refine ⟨zbp h1,?_⟩
 unfold yc4
 have a:=zbm (s.drop i) (k - i)
 have b:=zbm s i
 have c:=zbp (l:=(s.drop i).drop (k - i)) fun x hx=>h x (List.mem_of_mem_drop (List.mem_of_mem_drop hx))
 have d:=zbp (l:=s.take i) fun x hx=>h x (List.mem_of_mem_take hx)
 omega
theorem SumTo.step {s lo:Tab}{i k:Nat}{p:List Val × Int}(h:SumTo s i lo)(hsort:s.Pairwise leR)(hpos: ∀ x∈s,0<x.2)(hik:i<k)(hk:k<=s.length)(hp:s[i]?=some p)(hsame: ∀ j x,i<=j->j<k->s[j]?=some x->x.1=p.1)(hend: ∀ x,s[k]?=some x->x.1≠p.1):
 SumTo s k (lo++ [(p.1,yc4 s i k)])/\0<yc4 s i k:=by
 obtain ⟨h1,h2,h3,h4,h5⟩:=h
 have hle: ∀ {a b:Nat} {x y:List Val × Int},a<b->s[a]?=some x->s[b]?=some y-> ¬ yag y.1 x.1<0:=fun {a b x y} hab hx hy=>by
  have:=List.pairwise_iff_getElem.1 hsort a b (qO hx).1 (qO hy).1 hab
  rw [(qO hx).2,(qO hy).2] at this
  exact this
 have hmid: ∀ x∈(s.drop i).take (k - i),x.1=p.1:=fun x hx=>by
  obtain ⟨j,hj⟩:=List.getElem?_of_mem hx
  rw [List.getElem?_take] at hj
  split at hj
  ·rw [List.getElem?_drop] at hj
   exact hsame (i+j) x qF qF hj
  ·cases hj
 have hposm:0<yc4 s i k:=by
  have a:=zi7 (qV i) hp
  rw [zi6] at a
  have b:=hpos p (qP hp)
  have e:yc4 s i k=yc4 s i (i+1)+yc4 s (i+1) k:=by
   unfold yc4
   rw [<-zbb]
   congr 1
   rw [show (s.drop (i+1))=((s.drop i).drop (i+1 - i)) by rw [List.drop_drop];congr 1;omega]
   rw [show k - i=(i+1 - i)+(k - (i+1)) by omega,List.take_add]
  have c:=(zh7 hpos (i+1) k).1
  omega
 have hlo: ∀ y∈lo,yag y.1 p.1<0:=fun y hy=>by
  obtain ⟨z,hz,e⟩:=h3 y hy
  obtain ⟨j,hj⟩:=List.getElem?_of_mem hz
  rw [List.getElem?_take] at hj
  split at hj
  ·rw [<-e];exact h4 j i z p ‹_› (qV _) hj hp
  ·cases hj
 have htk:s.take k=s.take i++(s.drop i).take (k - i):=by rw [<-List.take_add];congr 1;omega
 refine ⟨⟨⟨zlt h1.1 hlo,fun x hx=>?_⟩,fun r=>?_,fun x hx=>?_,fun a j q x ha hj hq hx=>?_,?_⟩,hposm⟩
 ·rcases List.mem_append.1 hx with hx|hx
  ·exact h1.2 x hx
  ·simp at hx;subst hx;show yc4 s i k≠0;omega
 ·rw [zcc,h2,htk,zcc,zlx hmid]
  simp only [cnt]
  unfold yc4
  split<;>omega
 ·rcases List.mem_append.1 hx with hx|hx
  ·obtain ⟨y,hy,e⟩:=h3 x hx
   exact ⟨y,by rw [htk];exact List.mem_append_left _ hy,e⟩
  ·simp at hx
   subst hx
   exact ⟨p,qP (i:=i) (by rw [List.getElem?_take,if_pos hik];exact hp),rfl⟩
 ·rcases Nat.lt_or_ge a i with hai|hai
  ·exact h4 a j q x hai qF hq hx
  ·rw [hsame a q hai ha hq]
   obtain ⟨y,hy⟩: ∃ y,s[k]?=some y:=⟨s[k]'(by have:=(qO hx).1;omega),List.getElem?_eq_getElem _⟩
   have e1:=hend y hy
   have e2:=hle hik hp hy
   have f:=zbs p.1 y.1
   have e3:yag p.1 y.1<0:=by
    rcases Int.lt_trichotomy (yag p.1 y.1) 0 with c|c|c
    ·exact c
    ·exact absurd ((zar _ _).1 c).symm e1
    ·omega
   rcases Nat.lt_or_ge k j with hkj|hkj
   ·exact zod e3 (hle hkj hy hx)
   ·have:k=j:=by omega
    subst this
    rw [hy] at hx
    cases hx
    exact e3
 ·simp;omega
theorem SumTo.fin {s t lo:Tab}(h:SumTo s s.length lo)(hp:s.Perm t):lo=ybp t:=
 zh9 h.1 fun r=>by rw [h.2.1,List.take_length,yjf hp]
theorem ypt (A:Option Addr)(n c:Nat)(t:Tab)(w w1:World)(hb:Below w.heap.size w w1)(hown:ownD kEnt w1 w.heap.size (.slice A n c) n t)(hn:n<=100000)(hf: ∀ x∈t,x.1.length<=100000):
 Calls Tryz.prog 252 #[.slice A n c, .func (.func 253) #[] #[]] w1 fun e w'=>e= .returned (.tuple #[])/\ ∃ s,s.Perm t/\s.Pairwise leR/\rTab w' A n s/\Below w.heap.size w w':=by
 rcases Nat.eq_zero_or_pos n with rfl|hn0
 ·have hl:=hown.len
  obtain rfl:t= []:=List.eq_nil_of_length_eq_zero hl
  refine (AnyF.slices_SortFunc_none zp9 A c (.func (.func 253) #[] #[]) w1).mono ?_
  rintro e w' ⟨rfl,rfl⟩
  exact ⟨rfl,[], .nil,List.Pairwise.nil,rTab.nil _ _,hb⟩
 ·have h2:=hown
  obtain ⟨es,⟨_,⟨e1,e2⟩|⟨g,cap,cur,e1,b1,_⟩⟩,_⟩:=h2
  ·omega
  ·cases e1
   refine (yzo g n c w.heap.size t w1 hown hn0 qF hf).mono ?_
   rintro e w' ⟨rfl,s,h1,h2,h3,h4⟩
   exact ⟨rfl,s,h1,h2,h3,hb.trans (za9 h4 hb.size fun k e=>by cases e;exact b1)⟩
theorem Yeg (A:Option Addr)(n c:Nat)(w:World)(hn:n<=4096):Calls Tryz.prog 67 #[.slice A n c] w fun e w'=>e= .returned (.tuple #[.slice A n c, .int .i64 0])/\w'=w:=by
 have d1:decide (4096<n)=false:=by simp;omega
 go_enter Tryz.func67,Tryz.ntmps67
 go_wp2
 go_ret2
 exact ⟨rfl,rfl⟩
theorem Yd6 (A:Option Addr)(n c:Nat)(t:Tab)(w:World)(ht:rTab w A n t)(hn:n<=4096)(hpos: ∀ x∈t,0<x.2)(hs:yac t<=65536)(h12: ∀ x∈t,x.1.length<=12):Calls Tryz.prog 208 #[.slice A n c] w (ye6 (ybp t) w):=by
 have HC:=qL (Yea A n c t w ht qF)
 have HTL:=qL ht.len
 have HPOS:=qL hpos
 have HSUM:=qL hs
 have H12:=qL h12
 clear ht hpos hs h12
 go_enter Tryz.func208,Tryz.ntmps208
 go_wp2_with fail
 refine HC.out.mono ?_
 rintro e w1 ⟨A1,c1,rfl,hrd1,hcc1,hb1,hfr1,hown1⟩
 have HSORT:=qL (ypt A1 n c1 t w w1 hb1 hown1 qF (fun x hx=>by have:=H12.out x hx;omega))
 clear hrd1 hb1 hown1 hfr1
 go_wp2_with fail
 refine HSORT.out.mono ?_
 rintro e w2 ⟨rfl,s,hp,hsort,hs2,hb2⟩
 have HS:=qL hs2
 have HB2:=qL hb2
 have HP:=qL hp
 have HSO:=qL hsort
 have HSL:Hid (s.length=n):=qL hs2.len
 have HSP:Hid (∀ x∈s,0<x.2/\x.1.length<=12):=qL fun x hx=>⟨HPOS.out x (hp.mem_iff.1 hx),H12.out x (hp.mem_iff.1 hx)⟩
 have HSC:Hid (yac s<=65536):=qL (by rw [zqj hp];exact HSUM.out)
 clear hs2 hb2 hp hsort
 have HPT:=qL (HP.out)
 go_wp2
 go_loopw [4,5,6] (fun v ok i wr=> ∃ (k:Nat) (lo:Tab),k<=n/\ok= .bool true/\i= .int .i64 k/\Below w2.heap.size w2 wr/\Hid (ownD (ybb w2.heap.size) wr w2.heap.size v lo.length lo)/\Hid (SumTo s k lo)) (fun _ _ i _=>n - (intOf i).toNat)
 case atStart=>exact ⟨0,[],by omega,rfl,rfl,za0 _,qL (ownD.nil _ _),qL (SumTo.nil s)⟩
 case round=>
  obtain ⟨i,lo,hi,rfl,rfl,hbw,HO,HT⟩:=hrel
  have HBW:=qL hbw
  by_cases hlt:i<n
  ·obtain ⟨b1,o1,rfl,hc1⟩:=(HS.out.later hbw).opn qF
   obtain ⟨p,hp⟩:=zah (l:=s) (k:=i) (by have:=HSL.out;omega)
   obtain ⟨rA,rN,rC,p1,p2,p3⟩:=hc1 i p hp
   have HPP:=qL hp
   have HP3:=qL p3
   have HC1:=qL hc1
   have hp12:=(HSP.out p (qP hp)).2
   have hrN:rN<=12:=by have:=p3.len;omega
   have P1:=qL p1
   clear hc1 hp p3 p1 p2 hbw
   go_wp2
   go_loopw [7,8] (fun nn kv wx=> ∃ kk:Nat,i<=kk/\kk<=n/\kv= .int .i64 kk/\nn= .int .i64 (yc4 s i kk)/\Below wr.heap.size wr wx/\Hid (∀ j x,i<=j->j<kk->s[j]?=some x->x.1=p.1)) (fun _ kv _=>n - (intOf kv).toNat)
   case atStart=>exact ⟨i,qV _,hi,rfl,by rw [zi6],za0 _,qL fun j x h1 h2=>absurd h1 qF⟩
   case round=>
    obtain ⟨kk,hik,hkn,rfl,rfl,hbx,HSA⟩:=hrel
    have HBX:=qL hbx
    by_cases hkk:kk<n
    ·obtain ⟨x,hx⟩:=zah (l:=s) (k:=kk) (by have:=HSL.out;omega)
     obtain ⟨sA,sN,sC,x1,x2,x3⟩:=HC1.out kk x hx
     have X3:=qL x3
     have HXX:=qL hx
     have hx12:=(HSP.out x (qP hx)).2
     have gx:=Gro.cell (qM hbx P1.out)
     have gy:=Gro.cell (qM hbx x1)
     have y2:=x2
     have HCM:=qL fun W (hb:Below wr.heap.size wr W)=>cmrE rA rN rC sA sN sC p.1 x.1 W (HP3.out.later (btr HBX.out hb)) (X3.out.later (btr HBX.out hb)) qF qF
     have X2:=qL x2
     clear x1 x2 x3 hx hbx y2
     cases hz:(yag p.1 x.1==0)
     ·have hne:yag p.1 x.1≠0:=by simpa using hz
      have hend: ∀ y,s[kk]?=some y->y.1≠p.1:=fun y hy e=>by
       rw [HXX.out] at hy
       cases hy
       exact hne ((zar _ _).2 e.symm)
      have hik2:i<kk:=by
       rcases Nat.lt_or_ge i kk with h|h
       ·exact h
       ·have e:i=kk:=by omega
        subst e
        exact absurd rfl (hend p HPP.out)
      go_wp2_with fail
      refine zai qG qG ?_;(repeat (go_big_quiet_step ((go_at_call 42;exact Calls.gro_of (HCM.out _ (Gro.below _))))));refine wpQuiet_nil ?_;intro _ hw';obtain ⟨pq,hw''⟩:=hw';subst hw'';have hbq:=pq.below;revert hbq;generalize pq.world=wq;intro hbq
      have HBE:=qL (btr HBX.out hbq)
      clear gx gy hbq
      have HSTEP:=qL (SumTo.step HT.out HSO.out (fun x hx=>(HSP.out x hx).1) hik2 (by have:=HSL.out;omega) HPP.out HSA.out hend)
      have hm1:=HSTEP.out.2
      have hm2:yc4 s i kk<=65536:=by have:=(zh7 (s:=s) (fun x hx=>(HSP.out x hx).1) i kk).2;have:=HSC.out;omega
      have q1:=qM HBE.out P1.out
      have HPUT:=qL (putE w2.heap.size u4 lo.length lo rA rN rC p.1 (yc4 s i kk) _ (HO.out.later HBE.out) (HP3.out.later HBE.out) hrN hm1 hm2 (qR HBW.out.size HBE.out.size) (by have:=HT.out.2.2.2.2;omega))
      have HV0:Hid (∀ k,u4.ownBlock=some k->w2.heap.size<=k):=qL fun k e=>(HO.out.lt k e).1
      clear hend
      go_wp2_with fail
      refine HPUT.out.mono ?_
      rintro e w3 ⟨v',rfl,hown',hg⟩
      have HOF:=qL hown'
      have HBF:=qL (zaf (btr HBW.out HBE.out) hg HV0.out)
      clear hown' hg
      go_wp2
      go_roundw
      case rel=>exact ⟨kk,lo++ [(p.1,yc4 s i kk)],hkn,rfl,rfl,HBF.out,qL (by simpa using HOF.out),qL HSTEP.out.1⟩
      case measure=>simp [intOf];omega
     ·have HEQ:Hid (x.1=p.1):=qL ((zar _ _).1 (by simpa using hz)).symm
      have HMS:=qL (zi7 hik HXX.out)
      have hm3:=zh7 (s:=s) (fun x hx=>(HSP.out x hx).1) i (kk+1)
      have hm4:=HSC.out
      have hm5:IntKind.i64.wrap (yc4 s i kk+x.2)=yc4 s i kk+x.2:=by have:=HMS.out;rw [IntKind.wrap_i64];omega
      clear hm3 hm4
      go_wp2_with fail
      refine zai qG qG ?_;(repeat (go_big_quiet_step ((go_at_call 42;exact Calls.gro_of (HCM.out _ (Gro.below _))))));refine wpQuiet_nil ?_;intro _ hw';obtain ⟨pq,hw''⟩:=hw';subst hw'';have hbq:=pq.below;revert hbq;generalize pq.world=wq;intro hbq
      have HBE:=qL (btr HBX.out hbq)
      have q2:=qM HBE.out X2.out
      clear gx gy hbq
      go_wp2
      go_roundw
      case rel=>exact ⟨kk+1,by omega,by omega,by go_num,by rw [HMS.out],HBE.out,qL fun j y h1 h2 hy=>by
       rcases Nat.lt_or_ge j kk with h|h
       ·exact HSA.out j y h1 h hy
       ·have ej:j=kk:=by omega
        subst ej
        rw [HXX.out] at hy
        cases hy
        exact HEQ.out⟩
      case measure=>simp [intOf];omega
    ·obtain rfl:kk=n:=by omega
     have hik2:i<kk:=hlt
     have hend: ∀ y,s[kk]?=some y->y.1≠p.1:=fun y hy=>by
      rw [List.getElem?_eq_none (by have:=HSL.out;omega)] at hy;cases hy
     have dk:decide (kk<kk)=false:=by simp
     go_wp2_with fail
     refine zai qG qG ?_;(repeat (go_big_quiet_step (fail)));refine wpQuiet_nil ?_;intro _ hw';obtain ⟨pq,hw''⟩:=hw';subst hw'';have hbq:=pq.below;revert hbq;generalize pq.world=wq;intro hbq
     have HBE:=qL (btr HBX.out hbq)
     clear hbq
     have HSTEP:=qL (SumTo.step HT.out HSO.out (fun x hx=>(HSP.out x hx).1) hik2 (by have:=HSL.out;omega) HPP.out HSA.out hend)
     have hm1:=HSTEP.out.2
     have hm2:yc4 s i kk<=65536:=by have:=(zh7 (s:=s) (fun x hx=>(HSP.out x hx).1) i kk).2;have:=HSC.out;omega
     have q1:=qM HBE.out P1.out
     have HPUT:=qL (putE w2.heap.size u4 lo.length lo rA rN rC p.1 (yc4 s i kk) _ (HO.out.later HBE.out) (HP3.out.later HBE.out) hrN hm1 hm2 (qR HBW.out.size HBE.out.size) (by have:=HT.out.2.2.2.2;omega))
     have HV0:Hid (∀ k,u4.ownBlock=some k->w2.heap.size<=k):=qL fun k e=>(HO.out.lt k e).1
     clear hend
     go_wp2_with fail
     refine HPUT.out.mono ?_
     rintro e w3 ⟨v',rfl,hown',hg⟩
     have HOF:=qL hown'
     have HBF:=qL (zaf (btr HBW.out HBE.out) hg HV0.out)
     clear hown' hg
     go_wp2
     go_roundw
     case rel=>exact ⟨kk,lo++ [(p.1,yc4 s i kk)],hkn,rfl,rfl,HBF.out,qL (by simpa using HOF.out),qL HSTEP.out.1⟩
     case measure=>simp [intOf];omega
  ·obtain rfl:i=n:=by omega
   obtain ⟨vA,vc,hv4,hvc,hrd,hfr⟩:=HO.out.rd
   have HL:Hid (lo=ybp t):=qL (by
    have:=HT.out
    rw [<-HSL.out] at this
    exact this.fin HPT.out)
   have HR:Hid (rTabF wr w.heap.size vA lo.length lo):=qL (rTabF.mono ⟨hrd,fun _ a e=>(hfr a e).1⟩ HB2.out.size)
   have hle:lo.length<=4096:=by have:=HT.out.2.2.2.2;omega
   have dle:decide (4096<lo.length)=false:=by simp;omega
   subst hv4
   clear hrd hfr
   go_wp2_with fail
   refine (Yeg vA lo.length vc wr hle).mono ?_
   rintro e w4 ⟨rfl,rfl⟩
   have HBF:=qL (HB2.out.trans (hbw.mono HB2.out.size))
   go_wp2
   go_ret2
   exact ⟨_,_,_,rfl,by rw [<-HL.out];exact HR.out,hvc,HBF.out⟩
theorem yl3 (A:Option Addr)(n c:Nat)(t:Tab)(w:World)(ht:rTab w A n t)(hn:n<=4096)(hpos: ∀ x∈t,0<x.2)(hs:yac t<=65536)(h12: ∀ x∈t,x.1.length<=12)(hv: ∀ x∈t,vOk x.1):Calls Tryz.prog 213 #[.slice A n c] w (ye6 (ybp t) w):=by
 have HT:=qL ht
 have HP:=qL hpos
 have HS:=qL hs
 have H12:=qL h12
 have HV:=qL hv
 have HL:=qL ht.len
 clear ht hpos hs hv h12
 go_enter Tryz.func213,Tryz.ntmps213
 go_wp2
 go_loopw [9] (fun i wr=> ∃ k:Nat,k<=n/\i= .int .i64 k/\Below w.heap.size w wr) (fun i _=>n - (intOf i).toNat)
 case atStart=>exact ⟨0,by omega,rfl,za0 _⟩
 case round=>
  obtain ⟨k,hk,rfl,hbw⟩:=hrel
  have HBW:=qL hbw
  clear hbw
  by_cases hlt:k<n
  ·obtain ⟨b1,o1,rfl,hc1⟩:=(HT.out.later HBW.out).opn qF
   obtain ⟨x,hx⟩:=zah (l:=t) (k:=k) (by have:=HL.out;omega)
   obtain ⟨rA,rN,rC,x1,x2,x3⟩:=hc1 k x hx
   have hm:=qP hx
   have hx1:=HP.out x hm
   have hx2:x.2<=65536:=by
    have h1:=HS.out
    have h2:x.2<=yac t:=by
     have h3:=zbm t k
     have h4:=zbp (l:=t.take k) fun y hy=>HP.out y (List.mem_of_mem_take hy)
     have h5:=zbp (l:=t.drop (k+1)) fun y hy=>HP.out y (List.mem_of_mem_drop hy)
     have h6:t.drop k=x::t.drop (k+1):=by
      rw [List.drop_eq_getElem_cons (qO hx).1,(qO hx).2]
     rw [h6,yac] at h3
     omega
    omega
   have HF:=qL (zoy rA rN rC x.1 x.2 (wr.alloc (.cells #[.slice rA rN rC, .int .i64 x.2] 65)) (x3.later (zae _ _)) (H12.out x hm) (HV.out x hm) qF hx2)
   clear hc1 hx x3
   go_wp2_with (go_at_call 95;refine HF.out.mono ?_;rintro e w' ⟨rfl,hb⟩)
   go_roundw
   case rel=>exact ⟨k+1,by omega,by go_num,btr HBW.out (btr (zae _ _) hb)⟩
   case measure=>simp [intOf];omega
  ·have H:=qL (Yd6 A n c t wr (HT.out.later HBW.out) hn HP.out HS.out H12.out)
   go_wp2_with fail
   refine H.out.mono ?_
   rintro e w2 ⟨A2,n2,c2,rfl,hr2,hc2,hb2⟩
   have HR2:=qL hr2
   have HB2:=qL (btr HBW.out hb2)
   clear hr2 hb2
   go_wp2
   go_ret2
   exact ⟨_,_,_,rfl,HR2.out.mono HBW.out.size,hc2,HB2.out⟩
end
section
open Go.RowKit Go.BigFrame
def yc8 {α:Type}(z:α)(l:List α)(is:List Int):List α:=is.map fun (i:Int)=>if 0<=i/\i<(l.length:Int) then l.getD i.toNat z else z
theorem zme {α:Type}{enc:α->List Value}(z:α)(zv:Value)(hC: ∀ x,(enc x).length=3)(hz:zv.cells=(enc z).toArray)(n:Nat):(madeCells zv.cells (n*3)).toList=flat enc (List.replicate n z):=by
 apply List.ext_getElem?
 intro j
 rw [hz]
 have hl:(flat enc (List.replicate n z)).length=n*3:=by rw [zau hC,List.length_replicate]
 by_cases hj:j<n*3
 ·have e:j=j / 3*3+j % 3:=by omega
  have h3:j % 3<3:=Nat.mod_lt _ qF
  have hg:(List.replicate n z)[j / 3]?=some z:=by rw [List.getElem?_replicate,if_pos qF]
  have hf:=zbf hC hg (j % 3) h3
  rw [<-e] at hf
  rw [hf]
  simp only [madeCells,Array.getElem?_toList,Array.getElem?_map,Array.getElem?_range,hj,if_true,Option.map_some,List.size_toArray,hC]
  rw [List.getElem?_eq_getElem (by rw [hC];exact h3)]
  simp [h3,hC]
 ·rw [List.getElem?_eq_none (by simp [madeCells];omega),List.getElem?_eq_none qF]
def PicTo {α:Type}(z:α)(l:List α)(is:List Int)(k:Nat)(r:List α):Prop:=r.length=is.length/\(∀ j,j<k->r[j]?=(yc8 z l is)[j]?)/\ ∀ j,k<=j->j<is.length->r[j]?=some z
theorem PicTo.end_ {α:Type}{z:α}{l:List α}{is:List Int}{r:List α}(h:PicTo z l is is.length r):r=yc8 z l is:=by
 apply List.ext_getElem?
 intro j
 by_cases hj:j<is.length
 ·exact h.2.1 j hj
 ·rw [List.getElem?_eq_none (by rw [h.1];omega),List.getElem?_eq_none (by simp [yc8];omega)]
theorem zjc {α:Type}{z:α}{l:List α}{is:List Int}{k:Nat}{i:Int}(h:is[k]?=some i):(yc8 z l is)[k]?=some (if 0<=i/\i<(l.length:Int) then l.getD i.toNat z else z):=by
 simp [yc8,h]
theorem PicTo.skip {α:Type}{z:α}{l:List α}{is:List Int}{k:Nat}{r:List α}{i:Int}(h:PicTo z l is k r)(hi:is[k]?=some i)(hn: ¬ (0<=i/\i<l.length)):PicTo z l is (k+1) r:=by
 have hk:=(qO hi).1
 refine ⟨h.1,fun j hj=>?_,fun j hj=>h.2.2 j qF⟩
 rcases Nat.lt_or_ge j k with h1|h1
 ·exact h.2.1 j h1
 ·obtain rfl:j=k:=by omega
  rw [h.2.2 j (qV _) hk,zjc hi,if_neg hn]
theorem PicTo.put {α:Type}{z x:α}{l:List α}{is:List Int}{k:Nat}{r:List α}{i:Int}(h:PicTo z l is k r)(hi:is[k]?=some i)(h0:0<=i)(hx:l[i.toNat]?=some x):PicTo z l is (k+1) (r.set k x):=by
 have hk:=(qO hi).1
 have hl:=(qO hx).1
 refine ⟨by rw [List.length_set];exact h.1,fun j hj=>?_,fun j hj hj2=>?_⟩
 ·rcases Nat.lt_or_ge j k with h1|h1
  ·rw [List.getElem?_set_ne qF];exact h.2.1 j h1
  ·obtain rfl:j=k:=by omega
   rw [List.getElem?_set_self (by rw [h.1];exact hk),zjc hi,if_pos ⟨h0,by omega⟩,List.getD_eq_getElem?_getD,hx];rfl
 ·rw [List.getElem?_set_ne qF];exact h.2.2 j qF hj2
theorem yza (A:Option Addr)(n c:Nat)(l:List Val)(B:Option Addr)(m d:Nat)(is:List Int)(w:World)(h:rVal w A n l)(hi:rInt w B m is)(hn:n<=100000)(hm:m<=100000):
 Calls Tryz.prog 250 #[.slice A n c, .slice B m d] w (yg9 kVal m (yc8 (⟨0,0,⟨#[]⟩⟩:Val) l is) w):=by
 obtain ⟨i0,hi0,hz0,hz1,hz2⟩:=info_parts zi4
 have hmk: ∀ W:World,∃ w',(Instr.makeSlice 63 (.int .i64 (m:Int)) (.int .i64 (m:Int))).run Tryz.prog W= .ok (.slice (some ⟨W.heap.size,0,none⟩) m m) w'/\
  w'.ownsRow W.heap.size 46 3 (.slice (some ⟨W.heap.size,0,none⟩) m m) m (flat yat (List.replicate m (⟨0,0,⟨#[]⟩⟩:Val)))/\W.grownBy w' none:=fun W=>by
  have:=run_make_full (P:=Tryz.prog) W W.heap.size 63 46 i0 _ 3 Tryz.underlying63 hi0 hz0 hz1 .i64 .i64 m (by rw [hz2];omega) (by unfold maxLen;omega) (qV _)
  rwa [zme (⟨0,0,⟨#[]⟩⟩:Val) _ za4 rfl] at this
 have HA:=qL h
 have HI:=qL hi
 have LA:=qL h.len
 have LI:=qL hi.len
 obtain ⟨w1,hm1,hm2,hm3⟩:=hmk w
 have HM:=qL hm2
 have hB1:Below w.heap.size w w1:=za9 hm3 (qV _) (fun k h=>by cases h)
 clear h hi hmk hm2 hm3
 go_enter Tryz.func250,Tryz.ntmps250
 go_wp2
 go_loopw [13] (fun i wr=> ∃ (k:Nat) (r:List Val),k<=m/\i= .int .i64 k/\Below w.heap.size w wr/\Hid (wr.ownsRow w.heap.size 46 3 (.slice (some ⟨w.heap.size,0,none⟩) m m) m (flat yat r))/\Hid (PicTo (⟨0,0,⟨#[]⟩⟩:Val) l is k r)) (fun i _=>m - (intOf i).toNat)
 case atStart=>exact ⟨0,_,by omega,rfl,hB1,HM,qL ⟨by rw [List.length_replicate,LI.out],fun j hj=>absurd hj qF,fun j _ hj=>by rw [List.getElem?_replicate,if_pos (by have:=LI.out;omega)]⟩⟩
 case round=>
  obtain ⟨k,r,hk,rfl,hbw,HO,HP⟩:=hrel
  have HBW:=qL hbw
  by_cases hlt:k<m
  ·obtain ⟨b1,o1,rfl,hc1⟩:=HI.out.opn qF
   obtain ⟨i,hi⟩:=zah (l:=is) (k:=k) (by have:=LI.out;omega)
   have y0:=qM hbw (hc1 k i hi)
   have HX:=qL hi
   clear hc1 hi
   by_cases hin:0<=i/\i<n
   ·obtain ⟨h0,h1⟩:=hin
    obtain ⟨j,rfl⟩:=Int.eq_ofNat_of_zero_le h0
    have hjn:j<n:=by omega
    obtain ⟨b2,o2,rfl,hc2⟩:=HA.out.opn qF
    obtain ⟨x,hx⟩:=zah (l:=l) (k:=j) (by have:=LA.out;omega)
    obtain ⟨x1,x2,x3⟩:=hc2 j x hx
    have y1:=qM hbw x1
    have y2:=qM hbw x2
    have y3:=qM hbw x3
    obtain ⟨q,hq⟩:=zah (l:=r) (k:=k) (by have:=HP.out.1;have:=LI.out;omega)
    have own:=HO.out
    have z1:wr.cell? ⟨w.heap.size,k*3,none⟩=some (held wr ⟨w.heap.size,k*3,none⟩):=zbt (by rw [own.cellAt _ qF];exact zbf za4 hq 0 qF)
    have z2:wr.cell? ⟨w.heap.size,k*3+1,none⟩=some (held wr ⟨w.heap.size,k*3+1,none⟩):=zbt (by rw [own.cellAt _ qF];exact zbf za4 hq 1 qF)
    have z3:wr.cell? ⟨w.heap.size,k*3+2,none⟩=some (held wr ⟨w.heap.size,k*3+2,none⟩):=zbt (by rw [own.cellAt _ qF];exact zbf za4 hq 2 qF)
    have zf: ∀ o,wr.frozen? ⟨w.heap.size,o,none⟩=false:=fun o=>own.frozenAt o
    have own3:=qL (zmr za4 (x:=x) rfl own hlt)
    have HP3:=qL (HP.out.put HX.out qF (by rw [Int.toNat_natCast];exact hx))
    have HB3:=qL (zev hbw (qV w.heap.size) (a:=k*3) (b:=k*3+1) (c:=k*3+2) (x:= .int .i64 x.k) (y:= .int .i64 x.m) (z:= .string x.s))
    have d1:decide (j<n)=true:=by simp [hjn]
    clear hc2 hx hq own x1 x2 x3 hbw
    go_wp2
    go_roundw
    case rel=>exact ⟨k+1,r.set k x,by omega,by go_num,HB3.out,own3,HP3⟩
    case measure=>simp [intOf];omega
   ·have HP3:=qL (HP.out.skip HX.out (by rw [LA.out];exact hin))
    by_cases hi0':0<=i
    ·have d0:decide (0<=i)=true:=by simp [hi0']
     have d1:decide (i<n)=false:=by simp;omega
     clear hin
     go_wp2
     go_roundw
     case rel=>exact ⟨k+1,r,by omega,by go_num,HBW.out,HO,HP3⟩
     case measure=>simp [intOf];omega
    ·have d0:decide (0<=i)=false:=by simp;omega
     clear hin
     go_wp2
     go_roundw
     case rel=>exact ⟨k+1,r,by omega,by go_num,HBW.out,HO,HP3⟩
     case measure=>simp [intOf];omega
  ·obtain rfl:k=m:=by omega
   go_wp2
   go_ret
   obtain ⟨A2,c2,e2,hr2,_⟩:=zd9 HO.out
   have hend:r=yc8 (⟨0,0,⟨#[]⟩⟩:Val) l is:=PicTo.end_ (by have:=HP.out;rw [<-LI.out] at this;exact this)
   cases e2
   exact ⟨_,_,rfl,zb4.2 (by rw [<-hend];exact hr2),qV _,hbw,(fun a ha=>by cases ha;exact ⟨qV _,(HO.out.lt _ rfl).2⟩),⟨_,by rw [<-hend];exact HO.out,zbg _,fun a h p hp=>by cases hp⟩⟩
end
section
open Go.RowKit Go.BigFrame
def yd8 {α : Type}(p : α -> Bool)(l : List α) : Int := match l.findIdx? p with | some i => i | none => -1
theorem zck {α:Type}{p:α->Bool}{l:List α}{k:Nat}{x:α}(hb: ∀ (j:Nat) y,j<k->l[j]?=some y->p y=false)(hx:l[k]?=some x)(hp:p x=true):yd8 p l=k:=by
 have h:l.findIdx? p=some k:=by
  rw [List.findIdx?_eq_some_iff_getElem]
  refine ⟨(qO hx).1,by rw [(qO hx).2];exact hp,fun j hj=>?_⟩
  have hjl:j<l.length:=by have:=(qO hx).1;omega
  have:=hb j _ hj (List.getElem?_eq_getElem hjl)
  simp [this]
 unfold yd8;rw [h]
theorem zcw {α:Type}{p:α->Bool}{l:List α}(hb: ∀ (j:Nat) y,l[j]?=some y->p y=false):yd8 p l= -1:=by
 have h:l.findIdx? p=none:=by
  rw [List.findIdx?_eq_none_iff]
  intro x hx
  obtain ⟨j,hj⟩:=List.getElem?_of_mem hx
  exact hb j x hj
 unfold yd8;rw [h]
def NoneTo {α:Type}(p:α->Bool)(l:List α)(k:Nat):Prop:= ∀ (j:Nat) y,j<k->l[j]?=some y->p y=false
theorem NoneTo.succ {α:Type}{p:α->Bool}{l:List α}{k:Nat}{x:α}(h:NoneTo p l k)(hx:l[k]?=some x)(hp:p x=false):NoneTo p l (k+1):=by
 intro j y hj hy
 rcases Nat.lt_or_ge j k with h1|h1
 ·exact h j y h1 hy
 ·obtain rfl:j=k:=by omega
  rw [hx] at hy;cases hy;exact hp
def yd1 (nm:ByteArray)(c:Col):Bool:=c.nm.toList==nm.toList
theorem yri (c:Col)(B:Nat)(nm:ByteArray)(w:World)(hc:w.cell? ⟨B,0,none⟩=some (.string nm)):
 Calls Tryz.prog 190 #[.agg #[.string c.nm, .int .i64 c.k, .bool c.nl], .pointer (some ⟨B,0,none⟩)] w fun e w'=>e= .returned (.bool (yd1 nm c))/\Below w.heap.size w w':=by
 have hc':=qM (zae w (.cells #[.string c.nm, .int .i64 c.k, .bool c.nl] 56)) hc
 go_enter Tryz.func190,Tryz.ntmps190
 go_wp2
 go_ret
 exact ⟨zal (by simp [yd1]),zae _ _⟩
theorem zkt (cB:Nat)(p:Col->Bool)(A:Option Addr)(n c:Nat)(l:List Col)(w:World)(h:rCol w A n l)(hn:n<=100000)
 (hG: ∀ (W:World) (x:Col),Below w.heap.size w W->x∈l->Calls Tryz.prog 190 #[.agg #[.string x.nm, .int .i64 x.k, .bool x.nl], .pointer (some ⟨cB,0,none⟩)] W fun e w'=>e= .returned (.bool (p x))/\Below W.heap.size W w'):
 Calls Tryz.prog 189 #[.slice A n c, .func (.func 190) #[] #[.pointer (some ⟨cB,0,none⟩)]] w fun e w'=>e= .returned (.int .i64 (yd8 p l))/\Below w.heap.size w w':=by
 have HA:=qL h
 have LA:=qL h.len
 have HG:=qL hG
 clear h hG
 go_enter Tryz.func189,Tryz.ntmps189
 go_wp2
 go_loopw [8] (fun i wr=> ∃ k:Nat,k<=n/\i= .int .i64 k/\Below w.heap.size w wr/\Hid (NoneTo p l k)) (fun i _=>n - (intOf i).toNat)
 case atStart=>exact ⟨0,by omega,rfl,za0 _,qL fun j _ hj=>absurd hj qF⟩
 case round=>
  obtain ⟨k,hk,rfl,hbw,HS⟩:=hrel
  have HBW:=qL hbw
  by_cases h1:k<n
  ·obtain ⟨b1,o1,rfl,hc1⟩:=(HA.out.later hbw).opn qF
   obtain ⟨x,hx⟩:=zah (l:=l) (k:=k) (by have:=LA.out;omega)
   have hcells:=hc1 k x hx
   have HX:=qL hx
   have HC:=qL (HG.out wr x hbw (qP hx))
   clear hc1 hx hbw
   (repeat (obtain ⟨_,hcells⟩:=hcells))
   cases hz:p x
   ·have HZ:=qL hz
    go_wp2_with fail
    refine HC.out.mono ?_
    rintro e w2 ⟨rfl,hb2⟩
    have HB2:=qL (btr HBW.out hb2)
    clear hb2
    go_wp2
    go_roundw
    case rel=>exact ⟨k+1,by omega,by go_num,HB2.out,qL (HS.out.succ HX.out HZ.out)⟩
    case measure=>simp [intOf];omega
   ·have HZ:=qL hz
    go_wp2_with fail
    refine HC.out.mono ?_
    rintro e w2 ⟨rfl,hb2⟩
    have HB2:=qL (btr HBW.out hb2)
    clear hb2
    go_wp2
    go_ret
    exact ⟨zak (zck HS.out HX.out HZ.out).symm,HB2.out⟩
  ·go_wp2
   go_ret
   exact ⟨zak (zcw (fun j y hy=>HS.out j y (by have:=LA.out;have:=(qO hy).1;omega) hy)).symm,hbw⟩
theorem yyi (A:Option Addr)(n c:Nat)(cs:List Col)(B:Nat)(nm:ByteArray)(w:World)(h:rCol w A n cs)(hn:n<=100000)(hc:w.cell? ⟨B,0,none⟩=some (.string nm)):
 Calls Tryz.prog 189 #[.slice A n c, .func (.func 190) #[] #[.pointer (some ⟨B,0,none⟩)]] w fun e w'=>e= .returned (.int .i64 (yd8 (yd1 nm) cs))/\Below w.heap.size w w':=
 zkt B (yd1 nm) A n c cs w h hn fun W x hb _=>yri x B nm W (qM hb hc)
def yao (cs:List Col)(nm:ByteArray):Int:=yd8 (yd1 nm) cs
theorem zl9 (A:Option Addr)(n c:Nat)(cs:List Col)(nm:ByteArray)(w:World)(h:rCol w A n cs)(hn:n<=100000):
 Calls Tryz.prog 124 #[.slice A n c, .string nm] w fun e w'=>e= .returned (.int .i64 (yao cs nm))/\Below w.heap.size w w':=by
 have H:=qL (yyi A n c cs w.heap.size nm (w.alloc (.cells #[.string nm] 9)) (h.later (zae _ _)) hn qH)
 clear h
 go_enter Tryz.func124,Tryz.ntmps124
 go_wp2_with (go_at_call 189;refine (H.out).mono ?_;rintro e w' ⟨rfl,hb⟩)
 go_ret
 exact ⟨zak rfl,btr (zae _ _) hb⟩
end
section
open Go.RowKit Go.BigFrame
def isS (s x:ByteArray):Bool:=s.toList==x.toList
def yoa (l:List ByteArray)(s:ByteArray):Bool:=l.any (isS s)
theorem yyj (A:Option Addr)(n c:Nat)(l:List ByteArray)(s:ByteArray)(w:World)(h:rStr w A n l)(hn:n<=100000):
 Calls Tryz.prog 221 #[.slice A n c, .string s] w fun e w'=>e= .returned (.int .i64 (yd8 (isS s) l))/\w=w':=by
 have HA:=qL h
 have LA:=qL h.len
 clear h
 go_enter Tryz.func221,Tryz.ntmps221
 go_wp2
 go_loop [8] (fun i=> ∃ k:Nat,k<=n/\i= .int .i64 k/\Hid (NoneTo (isS s) l k)) (fun i=>n - (intOf i).toNat)
 case atStart=>exact ⟨0,by omega,rfl,qL fun j _ hj=>absurd hj qF⟩
 case round=>
  obtain ⟨k,hk,rfl,HS⟩:=hrel
  by_cases h1:k<n
  ·obtain ⟨b1,o1,rfl,hc1⟩:=HA.out.opn qF
   obtain ⟨x,hx⟩:=zah (l:=l) (k:=k) (by have:=LA.out;omega)
   have hcell:=hc1 k x hx
   have HX:=qL hx
   clear hc1 hx
   cases hz:(s.toList==x.toList)
   ·have HZ:Hid (isS s x=false):=qL hz
    go_wp2
    case roundEnd=>exact ⟨⟨k+1,by omega,by go_num,qL (HS.out.succ HX.out HZ.out)⟩,by simp [intOf];omega⟩
   ·have HZ:Hid (isS s x=true):=qL hz
    go_wp2
    go_ret
    exact ⟨zak (zck HS.out HX.out HZ.out).symm,rfl⟩
  ·go_wp2
   go_ret
   exact ⟨zak (zcw (fun j y hy=>HS.out j y (by have:=LA.out;have:=(qO hy).1;omega) hy)).symm,rfl⟩
theorem zo0 {α:Type}(p:α->Bool)(l:List α):decide (0<=yd8 p l)=l.any p:=by
 unfold yd8
 cases h:l.findIdx? p with
 |none=>
  have:l.any p=false:=by
   rw [List.findIdx?_eq_none_iff] at h
   simp only [List.any_eq_false]
   intro x hx;have:=h x hx;simp [this]
  rw [this];simp
 |some i=>
  have:l.any p=true:=by
   rw [List.findIdx?_eq_some_iff_getElem] at h
   obtain ⟨hi,hp,_⟩:=h
   exact List.any_eq_true.2 ⟨_,List.getElem_mem hi,hp⟩
  rw [this];simp
theorem yrp (A:Option Addr)(n c:Nat)(l:List ByteArray)(s:ByteArray)(w:World)(h:rStr w A n l)(hn:n<=100000):
 Calls Tryz.prog 148 #[.slice A n c, .string s] w fun e w'=>e= .returned (.bool (yoa l s))/\w=w':=by
 have H:=qL (yyj A n c l s w h hn)
 clear h
 go_enter Tryz.func148,Tryz.ntmps148
 go_wp2_with (go_at_call 221;refine (H.out).mono ?_;rintro e w' ⟨rfl,rfl⟩)
 go_ret
 exact ⟨zal (by unfold yoa;rw [<-zo0]),rfl⟩
def Ydi (is:List Int)(w:World)(e:Ending)(w':World):Prop:= ∃ A n c,e= .returned (.tuple #[.slice A n c, .int .i64 0])/\rInt w' A n is/\n<=c/\Below w.heap.size w w'
theorem Yhf :(Tryz.prog.info? 3).map (fun i=>(i.zero,i.size,i.bytes))=some (some (.int .i64 0),1,8):=by kernel_rfl
theorem Yc6 : ∃ i,KinP Tryz.prog kInt 22 i (.int .i64 0) 8:=by
 obtain ⟨i0,hi,hz0,hz1,hz2⟩:=info_parts Yhf
 exact ⟨i0,⟨Tryz.underlying22,hi,hz0,hz1,hz2,rfl,by omega⟩⟩
def ybu (cs:List Col)(ns:List ByteArray):Prop:= ∀ (j:Nat) (s:ByteArray),ns[j]?=some s->0<=yao cs s/\yoa (ns.take j) s=false
theorem zd5 {W:World}{v:Value}{t:TypeId}: ∀ j u,[v][j]?=some u->(W.alloc (.cells #[v] t)).cell? ((⟨W.heap.size,0,none⟩:Addr).add j)=some u:=cell_one_new W v t
theorem yoe (A:Option Addr)(n c:Nat)(cs:List Col)(B:Option Addr)(m d:Nat)(ns:List ByteArray)(w:World)(h:rCol w A n cs)(hs:rStr w B m ns)(hok:ybu cs ns)(hn:n<=1000)(hm:m<=1000)(hd:m<=d):
 Calls Tryz.prog 132 #[.slice A n c, .slice B m d] w (Ydi (ns.map (yao cs)) w):=by
 obtain ⟨iI,PI⟩:=Yc6
 have HC:=qL h
 have HS:=qL hs
 have LS:=qL hs.len
 have HK:=qL hok
 clear h hs hok
 go_enter Tryz.func132,Tryz.ntmps132
 go_wp2
 go_loopw [6,12] (fun v i wr=> ∃ k:Nat,k<=m/\i= .int .i64 k/\Below w.heap.size w wr/\Hid (ownD kInt wr w.heap.size v k ((ns.take k).map (yao cs)))) (fun _ i _=>m - (intOf i).toNat)
 case atStart=>exact ⟨0,by omega,rfl,za0 _,qL (ownD.nil _ _)⟩
 case round=>
  obtain ⟨k,hk,rfl,hbw,HO⟩:=hrel
  have HBW:=qL hbw
  by_cases hlt:k<m
  ·obtain ⟨b1,o1,rfl,hc1⟩:=HS.out.opn qF
   obtain ⟨s,hx⟩:=zah (l:=ns) (k:=k) (by have:=LS.out;omega)
   have y1:=qM hbw (hc1 k s hx)
   obtain ⟨q1,q2⟩:=HK.out k s hx
   have d1:decide (yao cs s<0)=false:=by simp;omega
   have HX:Hid ((ns.take (k+1)).map (yao cs)=(ns.take k).map (yao cs)++ [yao cs s]):=qL (by rw [zbc hx,List.map_append];rfl)
   have HI:=qL (zl9 A n c cs s wr (HC.out.later hbw) qF)
   have HH:=qL fun W (hb:Below w.heap.size w W)=>yrp (some ⟨b1,o1,none⟩) k d (ns.take k) s W (ymv.1 ((ymv.2 (HS.out.later hb)).take k qF)) qF
   have Q2:=qL q2
   have hv0: ∀ j,u6.ownBlock=some j->w.heap.size<=j/\j<wr.heap.size:=HO.out.lt
   have HV0:=qL hv0
   have i1:(k:Int)<=(d:Int):=by omega
   have i2: ¬ d=0:=by omega
   have i3:k<=d:=by omega
   clear hc1 hx q1 q2 hbw hv0
   go_wp2_with fail
   refine HI.out.mono ?_
   rintro e w1 ⟨rfl,hb1⟩
   have HB1:=qL (btr HBW.out hb1)
   have C1:=qL hb1
   have HH2:Hid (Calls Tryz.prog 148 #[.slice (some ⟨b1,o1,none⟩) k d, .string s] w1 fun e w'=>e= .returned (.bool false)/\w1=w'):=qL (by have h:=HH.out w1 HB1.out;rw [Q2.out] at h;exact h)
   clear hb1
   go_wp2_with fail
   refine HH2.out.mono ?_
   rintro e w2 ⟨rfl,rfl⟩
   go_wp2_with (at_builtin;refine zaq _ rfl _ _ rfl PI (HO.out.later (C1.out.alloc C1.out.size _)) ⟨_,0,none⟩ (yao cs s) (yao cs s) rfl rfl zd5 rfl (fun p hp=>by cases hp) qF (by have:=HB1.out.size;simp;omega) ?_;intro v' w' hown' hgrow hat)
   have HBF:=qL (zaf (HB1.out.alloc HB1.out.size _) hgrow (fun k e=>(HV0.out k e).1))
   have HOF:Hid (ownD kInt w' w.heap.size v' (k+1) ((ns.take (k+1)).map (yao cs))):=qL (by rw [HX.out];exact hown')
   clear hown' hgrow hat
   go_wp2
   go_roundw
   case rel=>exact ⟨k+1,by omega,by go_num,HBF.out,HOF⟩
   case measure=>simp [intOf];omega
  ·obtain rfl:k=m:=by omega
   obtain ⟨vA,vc,hv4,hvc,hrd,_⟩:=HO.out.rd
   have HR:Hid (rInt wr vA k (ns.map (yao cs))):=qL (by rw [List.take_of_length_le (by have:=LS.out;omega)] at hrd;exact zgl.1 hrd)
   subst hv4
   clear hrd
   go_wp2
   go_ret2
   exact ⟨_,_,_,rfl,HR.out,hvc,hbw⟩
end
section
open Go.RowKit Go.BigFrame
theorem ypd (A:Option Addr)(n c:Nat)(l:List Val)(B:Option Addr)(m d:Nat)(is:List Int)(w:World)(h:rVal w A n l)(hi:rInt w B m is)(hn:n<=100000)(hm:m<=100000):
 Calls Tryz.prog 207 #[.slice A n c, .slice B m d] w (yg9 kVal m (yc8 (⟨0,0,⟨#[]⟩⟩:Val) l is) w):=by
 have H:=qL (yza A n c l B m d is w h hi hn hm)
 clear h hi
 go_enter Tryz.func207,Tryz.ntmps207
 go_wp2_with fail
 refine H.out.mono ?_
 rintro e w1 ⟨A1,c1,rfl,h1,h2,h3,h4,h5⟩
 have HE:=qL (⟨A1,c1,rfl,h1,h2,h3,h4,h5⟩:yg9 kVal m (yc8 (⟨0,0,⟨#[]⟩⟩:Val) l is) w (.returned (.slice A1 m c1)) w1)
 clear h1 h2 h3 h4 h5
 go_wp2
 go_ret
 exact HE.out
end
section
open Go.RowKit Go.BigFrame
theorem zac {W:World}{b j:Nat}{o:Obj}{u:Option Value}(h:b<W.heap.size)(hu:W.cell? ⟨b,j,none⟩=u):(W.alloc o).cell? ⟨b,j,none⟩=u:=by
 rw [World.cell?_alloc_past _ _ _ h];exact hu
theorem zab {W:World}{b j:Nat}{o:Obj}{u:Bool}(h:b<W.heap.size)(hu:W.frozen? ⟨b,j,none⟩=u):(W.alloc o).frozen? ⟨b,j,none⟩=u:=by
 rw [World.frozen?_alloc_past _ _ _ h];exact hu
theorem zad {W:World}{cs:Array Value}{t b j:Nat}(h:b=W.heap.size):(W.alloc (.cells cs t)).frozen? ⟨b,j,none⟩=false:=by
 subst h
 simp
end
section
open Go.RowKit Go.BigFrame
theorem zes :yab zV=true:=by simp [yab,zV,ByteArray.toList_eq]
theorem za2 {α β:Type}{K:Kin α β}{w:World}{B n:Nat}{v:Value}{l l':List β}(h:ownD K w B v n l)(e:l'=l):ownD K w B v l'.length l':=by
 subst e
 have:=h.len
 rw [this];exact h
end
section
open Go.RowKit Go.Maps Go.WideMaps
def Ycw (v:Value):Option (DataW Value × List MemPlace):=some (.held v,[])
def Mp (P:Program)(k:TypeId)(w:World)(b n:Nat)(f:List UInt8->Option Value):Prop:=
 ∃ D:DataW Value,w.ownsMap P k Ycw b n D/\ ∀ s,Maps.has D (.string s)=(f s).isSome/\ ∀ v,f s=some v-> ∀ z,D.atKey (.string s) z= .held v
def yc1 (f:List UInt8->Option Value)(s:List UInt8)(v:Value):List UInt8->Option Value:=fun t=>if t=s then some v else f t
section
variable {P:Program}{k e t:TypeId}{w w':World}{b n:Nat}{f:List UInt8->Option Value}
theorem Mp.made (w:World):Mp P k (w.alloc (.map #[] 0)) w.heap.size 0 (fun _=>none):=
 ⟨.map [],World.ownsMap_made _ _ _ _,fun s=>⟨rfl,fun v h=>by cases h⟩⟩
theorem Mp.kept {row:Option Nat}(h:Mp P k w b n f)(hg:w.grownBy w' row)(hne:some b≠row):Mp P k w' b n f:=by
 obtain ⟨D,h1,h2⟩:=h
 exact ⟨D,h1.kept hg hne,h2⟩
theorem Mp.alloc (h:Mp P k w b n f)(o:Obj):Mp P k (w.alloc o) b n f:=h.kept (World.grownBy_alloc w o none) qH
theorem Mp.drew (h:Mp P k w b n f):Mp P k w.drew b n f:=h
theorem Mp.lt (h:Mp P k w b n f):b<w.heap.size:=by
 obtain ⟨D,h1,_⟩:=h
 exact h1.lt
theorem Mp.later (h:Mp P k w b n f)(hb:Below w.heap.size w w'):Mp P k w' b n f:=by
 have hl:=h.lt
 obtain ⟨D,⟨es,clock,h1,r⟩,h2⟩:=h
 exact ⟨D,⟨es,clock,(hb.block b hl).trans h1,r⟩,h2⟩
theorem Mp.mono (h:Mp P k w b n f){m:Nat}(hm:n<=m):Mp P k w b m f:=by
 obtain ⟨D,h1,h2⟩:=h
 exact ⟨D,h1.mono hm,h2⟩
theorem yyy {D:DataW Value}(h2: ∀ s,Maps.has D (.string s)=(f s).isSome/\ ∀ v,f s=some v-> ∀ z,D.atKey (.string s) z= .held v)(s:List UInt8){v z:Value}{ps:List MemPlace}
 (hv:Ycw v=some (D.atKey (.string s) (.held z),ps)):v=(f s).getD z:=by
 cases hf:f s with
 |none=>
  have:=(h2 s).1
  rw [hf] at this
  rw [atKey_of_not_has this] at hv
  simp [Ycw] at hv
  exact hv.1
 |some u=>
  rw [(h2 s).2 u hf] at hv
  simp [Ycw] at hv
  exact hv.1
theorem Mp.look (h:Mp P k w b n f)(hk:P.underlying k=some .string)(ht:P.underlying t=some (.map k e)){z:Value}(hz:(zeroValue e).run P w= .ok z w)(s:ByteArray)(hs:s.size<=maxLen):
 (Instr.lookup t (.map (some b)) (.string s) false).run P w= .ok ((f s.data.toList).getD z) w:=by
 obtain ⟨D,h1,h2⟩:=h
 obtain ⟨v,ps,hrun,hv⟩:=h1.lookup (string_keyed hk) ht hz (zd:= .held z) (zp:= []) rfl (keyOf_string_mk hk hs)
 rw [hrun,yyy h2 _ hv]
theorem Mp.lookOk (h:Mp P k w b n f)(hk:P.underlying k=some .string)(ht:P.underlying t=some (.map k e)){z:Value}(hz:(zeroValue e).run P w= .ok z w)(s:ByteArray)(hs:s.size<=maxLen):
 (Instr.lookup t (.map (some b)) (.string s) true).run P w= .ok (.tuple #[(f s.data.toList).getD z, .bool (f s.data.toList).isSome]) w:=by
 obtain ⟨D,h1,h2⟩:=h
 obtain ⟨v,ps,hrun,hv⟩:=h1.look_ok (string_keyed hk) ht hz (zd:= .held z) (zp:= []) rfl (keyOf_string_mk hk hs)
 rw [hrun,yyy h2 _ hv,(h2 s.data.toList).1]
theorem Mp.put (h:Mp P k w b n f)(hk:P.underlying k=some .string)(ht:P.underlying t=some (.map k e))(hn:n<maxLen)(s:ByteArray)(hs:s.size<=maxLen)(v:Value):
 ∃ w',(Instr.mapUpdate t (.map (some b)) (.string s) v).run P w= .ok () w'/\Mp P k w' b (n+1) (yc1 f s.data.toList v)/\w.grownBy w' (some b):=by
 obtain ⟨D,h1,h2⟩:=h
 obtain ⟨w',hrun,h3,h4⟩:=h1.update (string_keyed hk) ht hn (keyOf_string_mk hk hs) (d:= .held v) (ps:= []) rfl
 refine ⟨w',hrun,⟨_,h3,fun t=>?_⟩,h4⟩
 by_cases e:t=s.data.toList
 ·subst e
  refine ⟨?_,fun u hu z=>?_⟩
  ·rw [has_put_same h1.isMap (show WideAt.IsKeyLit (.string s.data.toList) from trivial)];simp [yc1]
  ·simp [yc1] at hu
   subst hu
   exact atKey_put_same h1.isMap (show WideAt.IsKeyLit (.string s.data.toList) from trivial) _ _
 ·have hne:(Lit.string t)≠ .string s.data.toList:=fun h=>e (by simpa using h)
  refine ⟨?_,fun u hu z=>?_⟩
  ·rw [has_put_other hne,(h2 t).1];simp [yc1,e]
  ·simp [yc1,e] at hu
   rw [atKey_put_other hne]
   exact (h2 t).2 u hu z
end
section
variable {P:Program}(w:World){ops:Array Oper}{rest:List Oper}{o:Oper}{a:Act}{Q:Exit->Act->World->Prop}
theorem ziq (hg:o.guard=none)(m x v:Operand)(t:TypeId)(hop:o.op=Op.mapUpdate t m x v)
 (k e:TypeId) (hk:P.underlying k=some .string) (ht:P.underlying t=some (.map k e)) (b n:Nat) (f:List UInt8->Option Value)
 (hm:a.eval m= .map (some b)) (hown:Mp P k w b n f) (hn:n<maxLen) (s:ByteArray) (val:Value) (hx:a.eval x= .string s) (hv:a.eval v=val) (hs:s.size<=maxLen)
 (hK: ∀ w',Mp P k w' b (n+1) (yc1 f s.data.toList val)->w.grownBy w' (some b)->wpList P ops Q rest (a.put o.dst undef) w'):wpList P ops Q (o::rest) a w:=by
 refine wpList_plain hg fun K' hK'=>?_
 obtain ⟨w',hrun,r1,r2⟩:=hown.put hk ht hn s hs val
 unfold Oper.wp
 simp [execOp,hop,hm,hx,hv,hrun,Result.andThen]
 exact hK' _ _ (hK w' r1 r2)
end
end
section
open Go.RowKit Go.BigFrame
theorem zqp {r:List Val}(h: ∀ v∈r,yab v=true)(i:Int):yab (cel r i)=true:=by
 unfold cel
 split
 ·rename_i h2
  have hlt:i.toNat<r.length:=by omega
  rw [List.getD_eq_getElem?_getD,List.getElem?_eq_getElem hlt]
  exact h _ (List.getElem_mem _)
 ·exact zes
theorem zer {r:List Val}(h: ∀ v∈r,yab v=true)(is:List Int): ∀ v∈pkV is r,yab v=true:=fun v hv=>by
 obtain ⟨i,_,rfl⟩:=List.mem_map.1 hv
 exact zqp h i
end
section
open Go.RowKit Go.BigFrame
theorem Asc.at_ : ∀ {t:Tab} (_:Asc t) {i j:Nat} {p x:List Val × Int} (_:i<j) (_:t[i]?=some p) (_:t[j]?=some x),yag p.1 x.1<0
 | [],_,i,j,p,x,_,hi,_=>by simp at hi
 |y::t,h,0,j+1,p,x,_,hi,hj=>by
  simp at hi;subst hi
  exact h.1 x (qP (by simpa using hj))
 |y::t,h,i+1,j+1,p,x,hl,hi,hj=>Asc.at_ h.2 (i:=i) (j:=j) qF (by simpa using hi) (by simpa using hj)
theorem zn4 (A:Option Addr)(n c:Nat)(t:Tab)(w:World)(ht:rTab w A n t)(hok:yy3 t):Calls Tryz.prog 66 #[.slice A n c] w fun e w'=>e= .returned (.int .i64 0)/\Below w.heap.size w w':=by
 have HT:=qL ht
 have HL:=qL ht.len
 have HK:=qL hok
 have hn:n<=4096:=by have:=ht.len;have:=hok.1;omega
 have d1:decide (4096<n)=false:=by simp;omega
 clear ht hok
 go_enter Tryz.func66,Tryz.ntmps66
 go_wp2
 go_loopw [11] (fun i wr=> ∃ k:Nat,k<=n/\i= .int .i64 k/\Below w.heap.size w wr) (fun i _=>n - (intOf i).toNat)
 case atStart=>exact ⟨0,by omega,rfl,za0 _⟩
 case round=>
  obtain ⟨k,hk,rfl,hbw⟩:=hrel
  have HBW:=qL hbw
  by_cases hlt:k<n
  ·obtain ⟨b1,o1,rfl,hc1⟩:=HT.out.opn qF
   obtain ⟨x,hx⟩:=zah (l:=t) (k:=k) (by have:=HL.out;omega)
   obtain ⟨rA,rN,rC,x1,x2,x3⟩:=hc1 k x hx
   have hm:=HK.out.2.2 x (qP hx)
   have e0:(x.2==0)=false:=by have:=HK.out.2.1.2 x (qP hx);simp;exact this
   have y1:=qM hbw x1
   have y2:=qM hbw x2
   have X3:=qL x3
   have h12:=hm.1
   have HF:=qL (zoy rA rN rC x.1 x.2 (wr.alloc (.cells #[.slice rA rN rC, .int .i64 x.2] 65)) (x3.later (btr hbw (zae _ _))) hm.1 hm.2.2.2 hm.2.1 hm.2.2.1)
   by_cases hk0:k=0
   ·subst hk0
    simp only [Nat.zero_mul,Nat.add_zero] at y1 y2
    clear hc1 hx x3 hm hbw
    go_wp2_with fail
    refine HF.out.mono ?_
    rintro e w2 ⟨rfl,hb2⟩
    have z1:w2.cell? ⟨wr.heap.size,0,none⟩=some (.slice rA rN rC):=qM hb2 qH
    have z2:w2.cell? ⟨wr.heap.size,1,none⟩=some (.int .i64 x.2):=qM hb2 qH
    have HB2:=qL (btr HBW.out (btr (zae _ _) hb2))
    clear hb2
    go_wp2_with fail
    go_quiet (fail)
    go_wp2
    go_roundw
    case rel=>exact ⟨1,by omega,by go_num,za6 HB2.out _⟩
    case measure=>simp [intOf];omega
   ·obtain ⟨p,hp⟩:=zah (l:=t) (k:=k - 1) (by have:=HL.out;omega)
    obtain ⟨qA,qN,qC,p1,p2,p3⟩:=hc1 (k - 1) p hp
    have hcm:=HK.out.2.1.1.at_ qF hp hx
    have k1:decide (0<=yag p.1 x.1)=false:=by simp;omega
    have P3:=qL p3
    have hp12:=(HK.out.2.2 p (qP hp)).1
    have d3:decide (0<k)=true:=by simp;omega
    have i0:(1:Int)<=(k:Int):=by omega
    have i1:IntKind.i64.wrap ((k:Int) - 1)=(k:Int) - 1:=by rw [IntKind.wrap_i64];omega
    have i2:((k:Int) - 1).toNat=k - 1:=by omega
    have i3:(k:Int) - 1<n:=by omega
    have i4:(0:Int)<=(k:Int) - 1:=by omega
    clear hc1 hx x3 hm hbw hcm hk0 hp p3
    go_wp2_with fail
    refine HF.out.mono ?_
    rintro e w2 ⟨rfl,hb2⟩
    have z1:w2.cell? ⟨wr.heap.size,0,none⟩=some (.slice rA rN rC):=qM hb2 qH
    have z2:w2.cell? ⟨wr.heap.size,1,none⟩=some (.int .i64 x.2):=qM hb2 qH
    have hbA:=btr HBW.out (btr (zae _ _) hb2)
    have HB2:=qL hbA
    have g1:=Gro.cell z1
    have g2:=Gro.cell (qM hbA p1)
    clear hb2 hbA
    go_wp2_with fail
    refine zai qG qG ?_;(repeat (go_big_quiet_step ((go_at_call 42;exact Calls.gro_of (cmrE qA qN qC rA rN rC p.1 x.1 _ (P3.out.later (btr HB2.out (Gro.below _))) (X3.out.later (btr HB2.out (Gro.below _))) qF qF)))));refine wpQuiet_nil ?_;intro _ hw';obtain ⟨pq,hw''⟩:=hw';subst hw'';have hbq:=pq.below;revert hbq;generalize pq.world=wq;intro hbq
    have HB3:=qL (btr HB2.out hbq)
    clear g1 g2 hbq
    go_wp2
    go_roundw
    case rel=>exact ⟨k+1,by omega,by go_num,HB3.out⟩
    case measure=>simp [intOf];omega
  ·go_wp2
   go_ret
   exact ⟨zak rfl,hbw⟩
theorem Yd9 (rA:Option Addr)(rN rC:Nat)(c:Int)(w:World)(h:0<c):Calls Tryz.prog 69 #[.agg #[.slice rA rN rC, .int .i64 c]] w fun e w'=>e= .returned (.bool false)/\Below w.heap.size w w':=by
 go_enter Tryz.func69,Tryz.ntmps69
 go_wp2
 go_ret
 exact ⟨zal (by simp;omega),zae _ _⟩
theorem zo1  (p:Ent->Bool) (A:Option Addr) (n c:Nat) (l:List Ent) (w:World) (h:rEnt w A n l) (hn:n<=100000)
 (hG: ∀ (W:World) (x:Ent),Below w.heap.size w W->x∈l->Calls Tryz.prog 69 #[.agg #[.slice x.rA x.rN x.rC, .int .i64 x.c]] W fun e w'=>e= .returned (.bool (p x))/\Below W.heap.size W w'):
 Calls Tryz.prog 96 #[.slice A n c, .func (.func 69) #[] #[]] w fun e w'=>e= .returned (.int .i64 (yd8 p l))/\Below w.heap.size w w':=by
 have HA:=qL h
 have LA:=qL h.len
 have HG:=qL hG
 clear h hG
 go_enter Tryz.func96,Tryz.ntmps96
 go_wp2
 go_loopw [8] (fun i wr=> ∃ k:Nat,k<=n/\i= .int .i64 k/\Below w.heap.size w wr/\Hid (NoneTo p l k)) (fun i _=>n - (intOf i).toNat)
 case atStart=>exact ⟨0,by omega,rfl,za0 _,qL fun j _ hj=>absurd hj qF⟩
 case round=>
  obtain ⟨k,hk,rfl,hbw,HS⟩:=hrel
  have HBW:=qL hbw
  by_cases h1:k<n
  ·obtain ⟨b1,o1,rfl,hc1⟩:=(HA.out.later hbw).opn qF
   obtain ⟨x,hx⟩:=zah (l:=l) (k:=k) (by have:=LA.out;omega)
   have hcells:=hc1 k x hx
   have HX:=qL hx
   have HC:=qL (HG.out wr x hbw (qP hx))
   clear hc1 hx hbw
   (repeat (obtain ⟨_,hcells⟩:=hcells))
   cases hz:p x
   ·have HZ:=qL hz
    go_wp2_with fail
    refine HC.out.mono ?_
    rintro e w2 ⟨rfl,hb2⟩
    have HB2:=qL (btr HBW.out hb2)
    clear hb2
    go_wp2
    go_roundw
    case rel=>exact ⟨k+1,by omega,by go_num,HB2.out,qL (HS.out.succ HX.out HZ.out)⟩
    case measure=>simp [intOf];omega
   ·have HZ:=qL hz
    go_wp2_with fail
    refine HC.out.mono ?_
    rintro e w2 ⟨rfl,hb2⟩
    have HB2:=qL (btr HBW.out hb2)
    clear hb2
    go_wp2
    go_ret
    exact ⟨zak (zck HS.out HX.out HZ.out).symm,HB2.out⟩
  ·go_wp2
   go_ret
   exact ⟨zak (zcw (fun j y hy=>HS.out j y (by have:=LA.out;have:=(qO hy).1;omega) hy)).symm,hbw⟩
theorem yro (A:Option Addr)(n c:Nat)(t:Tab)(w:World)(ht:rTab w A n t)(hn:n<=100000)(hp: ∀ x∈t,0<x.2):
 Calls Tryz.prog 68 #[.slice A n c, .func (.func 69) #[] #[]] w fun e w'=>e= .returned (.bool false)/\Below w.heap.size w w':=by
 obtain ⟨es,h1,h2⟩:=ht
 have H:=qL (zo1 (fun _=>false) A n c es w h1 hn (fun W x _ hx=>by
  obtain ⟨j,hj⟩:=List.getElem?_of_mem hx
  obtain ⟨y,hy,hr⟩:=h2.get hj
  exact Yd9 x.rA x.rN x.rC x.c W (by rw [hr.2];exact hp y (qP hy))))
 have hi:Hid (yd8 (fun _:Ent=>false) es= -1):=qL (zcw fun _ _ _=>rfl)
 have H2:Hid (Calls Tryz.prog 96 #[.slice A n c, .func (.func 69) #[] #[]] w fun e w'=>e= .returned (.int .i64 (-1))/\Below w.heap.size w w'):=qL (by have h:=H.out;rw [hi.out] at h;exact h)
 clear h1 h2 H hi hp
 go_enter Tryz.func68,Tryz.ntmps68
 go_wp2_with (go_at_call 96;refine (H2.out).mono ?_;rintro e w' ⟨rfl,hb⟩)
 go_ret
 exact ⟨zal rfl,hb⟩
theorem ymh (A:Option Addr)(n c:Nat)(t:Tab)(w:World)(ht:rTab w A n t)(hok:ybi t):Calls Tryz.prog 41 #[.slice A n c] w fun e w'=>e= .returned (.bool true)/\Below w.heap.size w w':=by
 have H:=qL (zn4 A n c t w ht hok.1)
 have H2:=qL fun W (hb:Below w.heap.size w W)=>yro A n c t W (ht.later hb) (by have:=ht.len;have:=hok.1.1;omega) hok.2
 clear ht hok
 go_enter Tryz.func41,Tryz.ntmps41
 go_wp2_with fail
 refine H.out.mono ?_
 rintro e w1 ⟨rfl,hb1⟩
 have HB1:=qL hb1
 have H3:=qL (H2.out w1 hb1)
 clear hb1
 go_wp2_with fail
 refine H3.out.mono ?_
 rintro e w2 ⟨rfl,hb2⟩
 have HB2:=qL (btr HB1.out hb2)
 clear hb2
 go_wp2
 go_ret
 exact ⟨zal rfl,HB2.out⟩
end
section
open Go.RowKit Go.BigFrame
end
section
open Go.RowKit Go.BigFrame Go.Shelf Go.Sort Go.Lib
end
section
open Go.RowKit Go.BigFrame
end
end
end Go.Proofs.YthcalfeoejdcgaaGreatDoor
