import Derived.WalkKit
import Derived.ProofKit
import Derived.OpenShut
import Derived.Carry
import Derived.Deep.DeepHandedRow
import Derived.Lib.LaidTab
import Derived.Test.YthcalfeoejdcgaaGreatDoorCards
import Derived.Test.YthcalfeoejdcgaaGreatDoorK07
import Derived.Lib.SliceRun
import Derived.Lib.AppendStr
import Derived.Laws.IdiomStrings
import Derived.Sort.Grow
import Derived.Shelf.SlSortCmp.WholeK
import Derived.Ground.SlsfProg
namespace Go.Proofs.YthcalfeoejdcgaaGreatDoor
set_option linter.unusedSimpArgs false
set_option linter.unusedVariables false
set_option maxRecDepth 100000
set_option maxHeartbeats 20000000
section
section
open Go.BigFrame Go.RowKit
def Ydm (t:Tab)(w:World)(e:Ending)(w':World):Prop:= ∃ A n c t',e= .returned (.slice A n c)/\rTab w' A n t'/\n<=c/\Below w.heap.size w w'/\Asc t'/\(∀ r,cnt t' r=cnt t r)/\yac t'=yac t/\(∀ x∈t',∃ y∈t,y.1=x.1)/\eOk t'
theorem ypv {t a b:Tab}(k:Nat)(ha:Asc a)(hb:Asc b)(ca: ∀ r,cnt a r=cnt (t.take k) r)(cb: ∀ r,cnt b r=cnt (t.drop k) r)(sa:yac a=yac (t.take k))(sb:yac b=yac (t.drop k))
 (ma: ∀ x∈a,∃ y∈t.take k,y.1=x.1) (mb: ∀ x∈b,∃ y∈t.drop k,y.1=x.1) (ea:eOk a) (eb:eOk b):
 Asc (yai a b)/\(∀ r,cnt (yai a b) r=cnt t r)/\yac (yai a b)=yac t/\(∀ x∈yai a b,∃ y∈t,y.1=x.1)/\eOk (yai a b):=by
 obtain ⟨h1,h2,h3,h4,h5⟩:=zcy _ a b (qV _) ha hb
 refine ⟨h1,fun r=>by rw [h2,ca,cb,<-zcc,List.take_append_drop],by rw [h3,sa,sb,zbm],fun x hx=>?_,h5 ea eb⟩
 rcases h4 x hx with ⟨u,hu,e⟩|⟨u,hu,e⟩
 ·obtain ⟨y,hy,e2⟩:=ma u hu
  exact ⟨y,List.mem_of_mem_take hy,e2.trans e⟩
 ·obtain ⟨y,hy,e2⟩:=mb u hu
  exact ⟨y,List.mem_of_mem_drop hy,e2.trans e⟩
theorem Asc.short {t:Tab}(h:t.length<2):Asc t:=by
 cases t with
 |nil=>trivial
 |cons x l=>
  obtain rfl:l= []:=List.eq_nil_of_length_eq_zero (by simp at h;omega)
  exact ⟨(fun y hy=>by cases hy),trivial⟩
theorem zla : ∀ (N:Nat) (A:Option Addr) (n c:Nat) (t:Tab) (w:World),n<=N->rTab w A n t->n<=c->eOk t->yac t<=1000->Calls Tryz.prog 102 #[.slice A n c] w (Ydm t w)
 |N,A,n,c,t,w,hN,ht,hc,he,hs=>by
  obtain ⟨iE,PE⟩:=ymt
  have HT:=qL ht
  have HE:=qL he
  have HS:=qL hs
  have hlen:=ht.len
  have h1000:n<=1000:=by have:=he.len;omega
  have HL:=qL hlen
  clear ht he hs hlen
  by_cases h2:n<2
  ·go_enter Tryz.func102,Tryz.ntmps102
   go_wp2_with (at_builtin;refine zg1 _ rfl _ _ rfl PE HT.out rfl rfl qF ?_;intro v1 w1 hown hg)
   obtain ⟨A1,c1,rfl,hcc,hrd,_⟩:=hown.rd
   have HR:=qL hrd
   have HB:=qL (zcr hg)
   clear hown hrd hg
   go_wp2
   go_ret
   exact ⟨_,_,_,t,rfl,HR.out,hcc,HB.out,Asc.short (by have:=HL.out;omega),fun _=>rfl,rfl,fun x hx=>⟨x,hx,rfl⟩,HE.out⟩
  ·cases N with
   |zero=>omega
   |succ N=>
    obtain ⟨k,hk⟩: ∃ k:Nat,k=n / 2:=⟨_,rfl⟩
    have hq:(n:Int) / 2=(k:Int):=by omega
    have hk1:1<=k:=by omega
    have hk2:k<n:=by omega
    have hkN:k<=N:=by omega
    have hnN:n - k<=N:=by omega
    obtain ⟨b,off,rfl,_⟩:=HT.out.opn qF
    have d2:decide (n<2)=false:=by simp;omega
    have hne: ¬ c=k:=by omega
    have hne0: ¬ c=0:=by omega
    have hq2:(n:Int).tdiv 2=(k:Int):=by rw [Int.tdiv_eq_ediv_of_nonneg qF];omega
    have hw2:IntKind.i64.wrap (k:Int)=(k:Int):=by rw [IntKind.wrap_i64];omega
    have hkn:k<=n:=by omega
    have hkc:k<=c:=by omega
    have ih1:=fun W (hb:Below w.heap.size w W)=>zla N (some ⟨b,off,none⟩) k c (t.take k) W hkN (rD.later (rD.take (K:=kEnt) HT.out k qF) hb) qF (HE.out.take k) (by have h1:=zbm t k;have h2:=(HE.out.drop k).sum;have h3:=HS.out;omega)
    have ih2:=fun W (hb:Below w.heap.size w W)=>zla N (some ⟨b,off+k*2,none⟩) (n - k) (c - k) (t.drop k) W hnN (rD.later (rD.drop (K:=kEnt) HT.out k qF rfl) hb) qF (HE.out.drop k) (by have h1:=zbm t k;have h2:=(HE.out.take k).sum;have h3:=HS.out;omega)
    have IH1:=qL ih1
    have IH2:=qL ih2
    have i1:(0:Int)<=(k:Int):=by omega
    have i2:(k:Int)<=(n:Int):=by omega
    have i3:(k:Int)<=(c:Int):=by omega
    have i4:(n:Int)<=(c:Int):=by omega
    have hb0:=za0 w
    clear ih1 ih2 h2 hk
    go_enter Tryz.func102,Tryz.ntmps102
    go_wp2_with fail
    go_region_held3 (fun w'=>Below w.heap.size w w')
     (first |assumption|exact Below.drew qI|(refine btr ?_ qI;assumption))
     (first
      |(go_at_call 102;(with_reducible refine (IH1.out _ qI).mono ?_);rintro e w' ⟨A1,n1,c1,t1,rfl,hr1,hc1,hb1,as1,cn1,su1,me1,eo1⟩)
      |(go_at_call 102;(with_reducible refine (IH2.out _ qI).mono ?_);rintro e w' ⟨A2,n2,c2,t2,rfl,hr2,hc2,hb2,as2,cn2,su2,me2,eo2⟩)
      |(go_at_call 141;refine (yyw _ _ _ _ _ _ t1 t2 _ (hr1.later hb2) hr2 hc1 hc2 eo1 eo2 (by rw [su1,su2,zbm];exact HS.out)).mono ?_;rintro e w' ⟨A3,n3,c3,rfl,hr3,hc3,hb3⟩))
    have HB:Hid (Below w.heap.size w _):=qL qI
    have HF:=qL (ypv k as1 as2 cn1 cn2 su1 su2 me1 me2 eo1 eo2)
    have HR3:=qL hr3
    clear hr1 hr2 hr3 cn1 cn2 su1 su2 me1 me2 eo1 eo2 as1 as2
    go_wp2
    go_ret
    exact ⟨_,_,_,_,rfl,HR3.out,hc3,by assumption,HF.out⟩
theorem yy8 : ∃ i,KinP Tryz.prog kVal 63 i (.agg #[.int .i64 0, .int .i64 0, .string ⟨#[]⟩]) 32:=by
 obtain ⟨i0,hi,hz0,hz1,hz2⟩:=info_parts zi4
 exact ⟨i0,⟨Tryz.underlying63,hi,hz0,hz1,hz2,rfl,by omega⟩⟩
def ye6 (t:Tab)(w:World)(e:Ending)(w':World):Prop:= ∃ A n c,e= .returned (.tuple #[.slice A n c, .int .i64 0])/\rTabF w' w.heap.size A n t/\n<=c/\Below w.heap.size w w'
theorem zbc {α:Type}{l:List α}{k:Nat}{x:α}(h:l[k]?=some x):l.take (k+1)=l.take k++ [x]:=by
 rw [List.take_succ_eq_append_getElem (qO h).1,(qO h).2]
theorem ypg (A:Option Addr)(n c:Nat)(t:Tab)(w:World)(ht:rTab w A n t)(he:eOk t)(hs:yac t<=1000):Calls Tryz.prog 101 #[.slice A n c] w (ye6 t w):=by
 obtain ⟨iE,PE⟩:=zpw w.heap.size
 obtain ⟨iV,PV⟩:=yy8
 have HT:=qL ht
 have HE:=qL he
 have HS:=qL hs
 have hlen:=ht.len
 have h1000:n<=1000:=by have:=he.len;omega
 have HL:=qL hlen
 clear ht he hs hlen
 go_enter Tryz.func101,Tryz.ntmps101
 go_wp2
 go_loopw [4,5] (fun v i wr=> ∃ k:Nat,k<=n/\i= .int .i64 k/\Below w.heap.size w wr/\Hid (ownD (ybb w.heap.size) wr w.heap.size v k (t.take k))) (fun _ i _=>n - (intOf i).toNat)
 case atStart=>exact ⟨0,by omega,rfl,za0 _,qL (ownD.nil _ _)⟩
 case round=>
  obtain ⟨k,hk,rfl,hbw,HO⟩:=hrel
  by_cases hlt:k<n
  ·obtain ⟨b1,o1,rfl,hc1⟩:=HT.out.opn qF
   obtain ⟨x,hx⟩:=zah (l:=t) (k:=k) (by have:=HL.out;omega)
   obtain ⟨rA,rN,rC,x1,x2,x3⟩:=hc1 k x hx
   have hm:=HE.out x (qP hx)
   have hle:=HE.out.le (qP hx)
   have hx1:x.2<=1000:=by have:=HS.out;omega
   have e0:(x.2==0)=false:=by simp;omega
   have e1:((k:Int)==4096)=false:=by simp;omega
   have X3:=qL x3
   have hrN:rN<=12:=by have:=x3.len;omega
   have hv0: ∀ j,u4.ownBlock=some j->w.heap.size<=j/\j<wr.heap.size:=HO.out.lt
   have HV0:=qL hv0
   obtain ⟨vA,vc,hv4,hvc,_,_⟩:=HO.out.rd
   have HBW:=qL hbw
   have HX:=qL (zbc hx)
   have z1:=qM hbw x1
   have z2:=qM hbw x2
   have i1:(k:Int)<(n:Int):=by omega
   subst hv4
   clear hc1 hx x3 hv0
   go_wp2_with (go_at_call 100;refine (ymz _ _ qF qF).mono ?_;rintro e w' ⟨rfl,rfl⟩)
   go_region_held3 (fun w'=>Below w.heap.size w w'/\w'.cell? ⟨b1,o1+k*2,none⟩=some (.slice rA rN rC)/\w'.cell? ⟨b1,o1+k*2+1,none⟩=some (.int .i64 x.2))
    ((refine (fun (hB:Below w.heap.size w _)=>⟨hB,qM hB x1,qM hB x2⟩) ?_;first |exact Below.drew HBW.out|(go_split_ands;refine Below.alloc ?_ (Below.size qI) _;assumption)|(go_split_ands;exact zaf qI qI (fun k e=>(HV0.out k e).1))|(go_split_ands;refine Below.trans qI ?_;exact (zcr qI).mono (Below.size qI))))
    (first
     |((refine zjo _ qJ _ _ qJ PV (zb4.2 (X3.out.later (Below.drew HBW.out))) qJ qJ qF ?_;intro v1 w1 hown1 hg1;obtain ⟨A1,c1,rfl,hcc1,hrd1,hfr1⟩:=hown1.rd;have HB1:=qL (btr (Below.drew (za0 wr)) (zcr hg1))))
     |((refine za3 _ qJ _ _ qJ PE (HO.out.later (HB1.out.alloc HB1.out.size _)) ⟨_,0,none⟩ ⟨A1,rN,c1,x.2⟩ x qJ qJ (zan _ _ _ _ _ _) ⟨⟨zb4.1 (hrd1.later (zae _ _)),rfl⟩,fun _ a e=>qR HBW.out.size (hfr1 a e).1⟩ (zb3 (w1:=wr.drew) (fun k e=>(HV0.out k e).2) (fun a e=>(hfr1 a e).1)) qF (by have:=HB1.out.size;have:=HBW.out.size;simp;omega) ?_;intro v' w' hown' hgrow hat)))
   go_split_ands
   have HBF:Hid (Below w.heap.size w w'):=qL qI
   have HOF:Hid (ownD (ybb w.heap.size) w' w.heap.size v' (k+1) (t.take (k+1))):=qL (by rw [HX.out];exact hown')
   clear hown' hgrow hat hown1 hg1 hrd1 hfr1
   go_wp2
   go_roundw
   case rel=>exact ⟨k+1,by omega,by go_num,HBF.out,HOF⟩
   case measure=>simp [intOf];omega
  ·obtain rfl:k=n:=by omega
   obtain ⟨vA,vc,hv4,hvc,hrd,hfr⟩:=HO.out.rd
   have HR:Hid (rTabF wr w.heap.size vA k t):=qL ⟨by rw [List.take_of_length_le (by have:=HL.out;omega)] at hrd;exact hrd,fun _ a e=>(hfr a e).1⟩
   subst hv4
   clear hrd hfr
   go_wp2
   go_ret2
   exact ⟨_,_,_,rfl,HR.out,hvc,hbw⟩
def vOk (r:List Val):Prop:= ∀ v∈r,yab v=true
theorem ypk (v:Val)(w:World)(h:yab v=true):Calls Tryz.prog 77 #[.agg #[.int .i64 v.k, .int .i64 v.m, .string v.s]] w fun e w'=>e= .returned (.bool true)/\Below w.heap.size w w':=
 (zp5 v.k v.m v.s w).mono fun e w' ⟨h1,h2⟩=>⟨by rw [h1];exact zal h,h2⟩
theorem Yet (rA:Option Addr)(rN rC:Nat)(r:List Val)(c:Int)(w:World)(hr:rVal w rA rN r)(h12:r.length<=12)(hv:vOk r)(h1: -65536<=c)(h2:c<=65536):
 Calls Tryz.prog 74 #[.agg #[.slice rA rN rC, .int .i64 c]] w fun e w'=>e= .returned (.int .i64 0)/\Below w.heap.size w w':=by
 have HR:=qL hr
 have HL:=qL hr.len
 have HV:=qL hv
 have hrN:rN<=12:=by have:=hr.len;omega
 have d12:decide (12<rN)=false:=by simp;omega
 clear hr hv
 go_enter Tryz.func74,Tryz.ntmps74
 go_wp2_with (go_at_call 100;refine (ymz _ _ h1 h2).mono ?_;rintro e w' ⟨rfl,rfl⟩)
 go_loopw [3] (fun i wr=> ∃ k:Nat,k<=rN/\i= .int .i64 k/\Below (w.alloc (.cells #[.slice rA rN rC, .int .i64 c] 65)).heap.size (w.alloc (.cells #[.slice rA rN rC, .int .i64 c] 65)) wr) (fun i _=>rN - (intOf i).toNat)
 case atStart=>exact ⟨0,by omega,rfl,za0 _⟩
 case round=>
  obtain ⟨k,hk,rfl,hbw⟩:=hrel
  have HBW:=qL hbw
  have z0:wr.cell? ⟨w.heap.size,0,none⟩=some (.slice rA rN rC):=qM hbw qH
  have hfin:Hid (Below w.heap.size w wr):=qL (btr (zae w _) hbw)
  clear hbw
  by_cases hlt:k<rN
  ·obtain ⟨b1,o1,rfl,hc1⟩:=(HR.out.later hfin.out).opn qF
   obtain ⟨x,hx⟩:=zah (l:=r) (k:=k) (by have:=HL.out;omega)
   obtain ⟨x1,x2,x3⟩:=hc1 k x hx
   have hvx:=HV.out x (qP hx)
   clear hc1 hx
   go_wp2_with (go_at_call 77;refine (ypk x _ hvx).mono ?_;rintro e w' ⟨rfl,hb⟩)
   go_roundw
   case rel=>exact ⟨k+1,by omega,by go_num,btr HBW.out hb⟩
   case measure=>simp [intOf];omega
  ·go_wp2
   go_ret
   exact ⟨zak rfl,hfin.out⟩
def yqu (t:Tab)(w:World)(e:Ending)(w':World):Prop:= ∃ t',ye6 t' w e w'/\Bag t'/\(∀ r,cnt t' r=cnt t r)/\yac t'=yac t/\(∀ x∈t',∃ y∈t,y.1=x.1)/\eOk t'
theorem yra {t:Tab}(h:Asc t)(e:eOk t):Bag t:=⟨h,fun x hx=>by have:=(e x hx).1;omega⟩
theorem sumE (A:Option Addr)(n c:Nat)(t:Tab)(w:World)(ht:rTab w A n t)(he:eOk t)(hs:yac t<=1000)(hc:n<=c):Calls Tryz.prog 75 #[.slice A n c] w (yqu t w):=by
 have H:=qL (zla n A n c t w (qV _) ht hc he hs)
 have HS:=qL hs
 clear ht he hs
 go_enter Tryz.func75,Tryz.ntmps75
 go_wp2_with fail
 refine H.out.mono ?_
 rintro e w1 ⟨A1,n1,c1,t1,rfl,hr1,hc1,hb1,as1,cn1,su1,me1,eo1⟩
 have H2:=qL (ypg A1 n1 c1 t1 w1 hr1 eo1 (by rw [su1];exact HS.out))
 have HB1:=qL hb1
 have HF:Hid (Bag t1/\(∀ r,cnt t1 r=cnt t r)/\yac t1=yac t/\(∀ x∈t1,∃ y∈t,y.1=x.1)/\eOk t1):=qL ⟨yra as1 eo1,cn1,su1,me1,eo1⟩
 clear hr1 hb1 as1 cn1 su1 me1 eo1
 go_wp2_with fail
 refine H2.out.mono ?_
 rintro e w2 ⟨A2,n2,c2,rfl,hr2,hc2,hb2⟩
 have HR2:=qL hr2
 have HB2:=qL (btr HB1.out hb2)
 clear hr2 hb2
 go_wp2
 go_ret2
 exact ⟨t1,⟨_,_,_,rfl,HR2.out.mono HB1.out.size,hc2,HB2.out⟩,HF.out⟩
theorem Yhm (A:Option Addr)(n c:Nat)(t:Tab)(w:World)(ht:rTab w A n t)(he:eOk t)(hs:yac t<=1000)(hv: ∀ x∈t,vOk x.1)(hc:n<=c):Calls Tryz.prog 45 #[.slice A n c] w (yqu t w):=by
 have HT:=qL ht
 have HE:=qL he
 have HS:=qL hs
 have HV:=qL hv
 have HL:=qL ht.len
 have h1000:n<=1000:=by have:=ht.len;have:=he.len;omega
 clear ht he hs hv
 go_enter Tryz.func45,Tryz.ntmps45
 go_wp2
 go_loopw [4] (fun i wr=> ∃ k:Nat,k<=n/\i= .int .i64 k/\Below w.heap.size w wr) (fun i _=>n - (intOf i).toNat)
 case atStart=>exact ⟨0,by omega,rfl,za0 _⟩
 case round=>
  obtain ⟨k,hk,rfl,hbw⟩:=hrel
  have HBW:=qL hbw
  clear hbw
  by_cases hlt:k<n
  ·obtain ⟨b1,o1,rfl,hc1⟩:=(HT.out.later HBW.out).opn qF
   obtain ⟨x,hx⟩:=zah (l:=t) (k:=k) (by have:=HL.out;omega)
   obtain ⟨rA,rN,rC,x1,x2,x3⟩:=hc1 k x hx
   have hm:=HE.out x (qP hx)
   have hle:=HE.out.le (qP hx)
   have hx1:x.2<=1000:=by have:=HS.out;omega
   have HF:=qL (Yet rA rN rC x.1 x.2 wr x3 hm.2 (HV.out x (qP hx)) qF qF)
   clear hc1 hx x3
   go_wp2_with (go_at_call 74;refine HF.out.mono ?_;rintro e w' ⟨rfl,hb⟩)
   go_roundw
   case rel=>exact ⟨k+1,by omega,by go_num,btr HBW.out hb⟩
   case measure=>simp [intOf];omega
  ·have H:=qL (sumE A n c t wr (HT.out.later HBW.out) HE.out HS.out hc)
   go_wp2_with fail
   refine H.out.mono ?_
   rintro e w2 ⟨t1,⟨A2,n2,c2,rfl,hr2,hc2,hb2⟩,hF⟩
   have HR2:=qL hr2
   have HB2:=qL (btr HBW.out hb2)
   have HF:=qL hF
   clear hr2 hb2 hF
   go_wp2
   go_ret2
   exact ⟨t1,⟨_,_,_,rfl,HR2.out.mono HBW.out.size,hc2,HB2.out⟩,HF.out⟩
def gTab (cs:List Col)(N:Int)(t:Tab):Prop:=Bag t/\eOk t/\yac t<=N/\ ∀ x∈t,okRow cs x.1
theorem okRow.vOk {cs:List Col}{r:List Val}(h:okRow cs r):vOk r:=by
 intro v hv
 obtain ⟨j,hj⟩:=List.getElem?_of_mem hv
 obtain ⟨c,hc⟩:=zah (l:=cs) (k:=j) (by rw [<-h.1];exact (qO hj).1)
 exact (h.2 j v c hj hc).1
def yqs (cs:List Col)(N:Int)(w:World)(e:Ending)(w':World):Prop:= ∃ A n c t,e= .returned (.slice A n c)/\rTabF w' w.heap.size A n t/\n<=c/\gTab cs N t/\Below w.heap.size w w'
theorem Yhx (A:Option Addr)(n c:Nat)(cs:List Col)(A':Option Addr)(n' c':Nat)(l:List Int)(N:Nat)(w:World)(hcs:rCol w A n cs)(hl:rInt w A' n' l)(hn:n<=12)(hn':n'<=9223372036854775807)(hok:yy4 cs)(hN:N<=100):
 Calls Tryz.prog 23 #[.slice A n c, .slice A' n' c', .int .i64 N] w (yqs cs (3*N) w):=by
 obtain ⟨iE,PE⟩:=ymt
 have HC:=qL hcs
 have HL:=qL hl
 have HOK:=qL hok
 have HLC:=qL hcs.len
 clear hcs hl hok
 go_enter Tryz.func23,Tryz.ntmps23
 go_wp2
 go_loopw [7,8] (fun v i wr=> ∃ (k:Nat) (t:Tab),k<=N/\i= .int .i64 k/\Below w.heap.size w wr/\Hid (ownD kEnt wr w.heap.size v k t)/\Hid (eOk t/\yac t<=3*k/\ ∀ x∈t,okRow cs x.1)) (fun _ i _=>N - (intOf i).toNat)
 case atStart=>exact ⟨0,[],by omega,rfl,za0 _,qL (ownD.nil _ _),qL ⟨eOk.nil,by simp [yac],fun x h=>by cases h⟩⟩
 case round=>
  obtain ⟨k,t,hk,rfl,hbw,HO,HT⟩:=hrel
  have HBW:=qL hbw
  clear hbw
  by_cases hlt:k<N
  ·go_wp2_with fail
   refine (atE' _ _ _ _ _ _ (HL.out.later HBW.out) hn').mono ?_
   rintro e w1 ⟨v,rfl,hv0,hv1,hb1⟩
   have HB1:=qL hb1
   have HR:=qL (rowE A n c cs A' n' c' l (5*k) w1 ((HC.out.later (btr HBW.out hb1))) (HL.out.later (btr HBW.out hb1)) qF hn' HOK.out qF qF)
   have hv0': ∀ j,u7.ownBlock=some j->w.heap.size<=j/\j<wr.heap.size:=HO.out.lt
   have HV0:=qL hv0'
   clear hb1 hv0'
   cases hz:(v % 5==0)
   all_goals
    go_wp2_with fail
    refine HR.out.mono ?_
    rintro e w2 ⟨A1,c1,r,rfl,hr,hrok,hb2,hfr⟩
    have HBB:=qL (btr HB1.out hb2)
    have HR2:=qL hr
    have HROK:=qL hrok
    have HFR:=qL hfr
    clear hr hrok hb2 hfr
    go_wp2_with (at_builtin;refine zaq _ rfl _ _ rfl PE (HO.out.later (HBB.out.alloc HBB.out.size _)) ⟨_,0,none⟩ ⟨A1,cs.length,c1,_⟩ (r,_) rfl rfl (zan _ _ _ _ _ _) ⟨HR2.out.later (zae _ _),rfl⟩ (zb3 (w1:=wr) (fun k e=>(HV0.out k e).2) (fun a e=>qR HB1.out.size (HFR.out a e).1)) qF (by have:=HBB.out.size;have:=HBW.out.size;simp;omega) ?_;intro v' w' hown' hgrow hat)
    have HBF:=qL (zaf ((btr HBW.out HBB.out).alloc (btr HBW.out HBB.out).size _) hgrow (fun k e=>(HV0.out k e).1))
    have HOF:=qL hown'
    clear hown' hgrow hat
    go_wp2
    go_roundw
    case rel=>exact ⟨k+1,_,by omega,by go_num,HBF.out,HOF,qL ⟨HT.out.1.append (fun x hx=>by simp at hx;subst hx;exact ⟨by show (0:Int)<_;omega,by rw [show _=r from rfl,HROK.out.1,HLC.out];exact hn⟩),by rw [zbb];simp only [yac];have:=HT.out.2.1;omega,fun x hx=>by
     rcases List.mem_append.1 hx with h|h
     ·exact HT.out.2.2 x h
     ·simp at h;subst h;exact HROK.out⟩⟩
    case measure=>simp [intOf];omega
  ·obtain rfl:k=N:=by omega
   obtain ⟨vA,vc,hv4,hvc,hrd,_⟩:=HO.out.rd
   have HN:=qL (Yhm vA k vc t wr hrd HT.out.1 (by have:=HT.out.2.1;omega) (fun x hx=>(HT.out.2.2 x hx).vOk) hvc)
   subst hv4
   clear hrd
   go_wp2_with fail
   refine HN.out.mono ?_
   rintro e w2 ⟨t1,⟨A2,n2,c2,rfl,hr2,hc2,hb2⟩,h1,h2,h3,h4,h5⟩
   have HR2:=qL hr2
   have HB2:=qL (btr HBW.out hb2)
   have HG:Hid (gTab cs (3*k) t1):=qL ⟨h1,h5,by rw [h3];exact HT.out.2.1,fun x hx=>by
    obtain ⟨y,hy,e⟩:=h4 x hx
    rw [<-e];exact HT.out.2.2 y hy⟩
   clear hr2 hb2 h1 h2 h3 h4 h5
   go_wp2
   go_ret
   exact ⟨_,_,_,t1,rfl,HR2.out.mono HBW.out.size,hc2,HG.out,HB2.out⟩
theorem Yhy (A:Option Addr)(n c:Nat)(cs:List Col)(A':Option Addr)(n' c':Nat)(l:List Int)(N:Int)(M:Nat)(w:World)(hcs:rCol w A n cs)(hl:rInt w A' n' l)(hn:n<=12)(hn':n'<=9223372036854775807)(hok:yy4 cs)(h0:0<=N)(hM:N<=M)(hM2:M<=100):
 Calls Tryz.prog 23 #[.slice A n c, .slice A' n' c', .int .i64 N] w (yqs cs (3*M) w):=by
 obtain ⟨k,rfl⟩:=Int.eq_ofNat_of_zero_le h0
 refine (Yhx A n c cs A' n' c' l k w hcs hl hn hn' hok qF).mono ?_
 rintro e w' ⟨A1,n1,c1,t,h1,h2,h3,h4,h5⟩
 exact ⟨A1,n1,c1,t,h1,h2,h3,⟨h4.1,h4.2.1,by have:=h4.2.2.1;omega,h4.2.2.2⟩,h5⟩
def sId :ByteArray:=⟨#[105,100]⟩
def ycf :List Col:= [⟨⟨#[105,100]⟩,2,false⟩,⟨⟨#[99]⟩,3,false⟩,⟨⟨#[97,116]⟩,4,false⟩,⟨⟨#[118]⟩,2,true⟩]
def ybd :List Col:= [⟨⟨#[99]⟩,3,false⟩,⟨⟨#[97,116]⟩,4,false⟩,⟨⟨#[114]⟩,3,true⟩,⟨⟨#[107]⟩,2,false⟩]
def ybv (w:World)(g:Nat)(rs:List Rel):Prop:=w.heap[g]?=some (.cells (flat yl7 rs).toArray 31 (0,0))
def yge (nm:ByteArray)(b:Nat):Rel:=⟨nm,some ⟨b,0,none⟩,4,4,none,0,0,none,0,0⟩
def yct :ByteArray:=⟨#[111,114,100,101,114,115]⟩
def ybo :ByteArray:=⟨#[99,117,115,116,111,109,101,114,115]⟩
def yce :ByteArray:=⟨#[114,101,116,117,114,110,115]⟩
def Ydk (w:World)(e:Ending)(w':World):Prop:= ∃ g bo bc,e= .returned (.slice (some ⟨g,0,none⟩) 3 3)/\ybv w' g [yge yct bo,yge ybo bc,yge yce bo]/\rCol w' (some ⟨bo,0,none⟩) 4 ycf/\rCol w' (some ⟨bc,0,none⟩) 4 ybd/\
 Below w.heap.size w w'/\w.heap.size<=g/\g<w'.heap.size/\w.heap.size<=bo/\w.heap.size<=bc/\bo≠g/\bc≠g
theorem zof {w:World}{b:Nat}{l:List Col}{n:Nat}(hn:n=l.length)(h:w.heap[b]?=some (.cells (flat yam l).toArray 56 (0,0))):rCol w (some ⟨b,0,none⟩) n l:=by
 refine za7 (by rw [zau zdn,hn]) fun j u hu=>?_
 rw [World.cell?,h]
 simpa using hu
theorem zb7 {w:World}{o:Obj}{n:Nat}(h:n=w.heap.size):(w.alloc o).heap[n]?=some o:=by subst h;exact heap_alloc_new w o
theorem Yhw (w:World):Calls Tryz.prog 22 #[] w (Ydk w):=by
 go_enter Tryz.func22,Tryz.ntmps22
 go_wp2
 go_ret
 refine ⟨w.heap.size+2,w.heap.size,w.heap.size+1,rfl,?_,?_,?_,((zae _ _).alloc qH _).alloc (by simp;omega) _,by omega,by simp,by omega,by omega,by omega,by omega⟩
 ·exact zb7 qH
 ·refine zof rfl ?_
  rw [Below.heap_alloc _ _ _ (by simp;omega),Below.heap_alloc _ _ _ qH]
  exact zb7 qH
 ·refine zof rfl ?_
  rw [Below.heap_alloc _ _ _ qH]
  exact zb7 qH
theorem zfx {w w':World}(h:Below w.drew.heap.size w.drew w'):Below w.heap.size w w':=⟨h.os,h.tape,h.output,h.size,h.block⟩
theorem zqn (v:Int)(h:0<=v)(m:Nat):0<=v.tmod ((m:Int)+1)/\v.tmod ((m:Int)+1)<=m:=by
 rw [Int.tmod_eq_emod_of_nonneg h]
 have h1:=Int.emod_nonneg v (show (m:Int)+1≠0 by omega)
 have h2:=Int.emod_lt_of_pos v (show (0:Int)<(m:Int)+1 by omega)
 omega
def FilK (N:Nat)(k:Nat)(bo bc:Nat)(w:World)(g:Nat)(rs:List Rel):Prop:=
 ∃ r0 r1 r2,rs= [r0,r1,r2]/\
  (∃ A n c t, r0 = { yge yct bo with roA := A, roN := n, roC := c } /\ rTabF w (g + 1) A n t /\ n <= c /\ gTab ycf (3 * N) t) /\
  (∃ A n c t, r1 = { yge ybo bc with roA := A, roN := n, roC := c } /\ rTabF w (g + 1) A n t /\ n <= c /\ gTab ybd (3 * N) t) /\
  (∃ A n c t, r2 = { yge yce bo with roA := A, roN := n, roC := c } /\ rTabF w (g + 1) A n t /\ n <= c /\ gTab ycf (3 * N) t)
theorem gTab.nil (cs:List Col)(N:Nat):gTab cs (3*N) []:=⟨⟨trivial,fun x h=>by cases h⟩,eOk.nil,by simp [yac];omega,fun x h=>by cases h⟩
theorem rTabF.nil (w:World)(B:Nat)(A:Option Addr):rTabF w B A 0 []:=⟨rD.nil _ _,fun h=>absurd h qF⟩
theorem FilK.later {N k bo bc g:Nat}{w w':World}{rs:List Rel}(h:FilK N k bo bc w g rs)(hb:Below w.heap.size w w'):FilK N k bo bc w' g rs:=by
 obtain ⟨r0,r1,r2,e,⟨A0,n0,c0,t0,a1,a2,a3,a4⟩,⟨A1,n1,c1,t1,b1,b2,b3,b4⟩,⟨A2,n2,c2,t2,d1,d2,d3,d4⟩⟩:=h
 exact ⟨r0,r1,r2,e,⟨A0,n0,c0,t0,a1,a2.later hb,a3,a4⟩,⟨A1,n1,c1,t1,b1,b2.later hb,b3,b4⟩,⟨A2,n2,c2,t2,d1,d2.later hb,d3,d4⟩⟩
def yhe (k:Nat):List Col:=if k=1 then ybd else ycf
def yrb (bo bc k:Nat):Nat:=if k=1 then bc else bo
theorem yo3 (k:Nat):yy4 (yhe k):=by
 unfold yhe yy4
 split<;>(intro c hc;simp [ycf,ybd] at hc;rcases hc with rfl|rfl|rfl|rfl<;>simp)
theorem FilK.cells {N k bo bc g:Nat}{w:World}{rs:List Rel}(h:FilK N k bo bc w g rs)(hr:ybv w g rs){j:Nat}(hj:j<3):
 w.cell? ⟨g,j*4+1,none⟩=some (.slice (some ⟨yrb bo bc j,0,none⟩) 4 4)/\ ∃ u,w.cell? ⟨g,j*4+3,none⟩=some u:=by
 obtain ⟨r0,r1,r2,rfl,⟨A0,n0,c0,t0,rfl,_⟩,⟨A1,n1,c1,t1,rfl,_⟩,⟨A2,n2,c2,t2,rfl,_⟩⟩:=h
 unfold ybv at hr
 match j,hj with
 |0,_=>exact ⟨by rw [World.cell?,hr];rfl,_,by rw [World.cell?,hr];rfl⟩
 |1,_=>exact ⟨by rw [World.cell?,hr];rfl,_,by rw [World.cell?,hr];rfl⟩
 |2,_=>exact ⟨by rw [World.cell?,hr];rfl,_,by rw [World.cell?,hr];rfl⟩
theorem FilK.frozen {g:Nat}{w:World}{rs:List Rel}(hr:ybv w g rs)(o:Nat):w.frozen? ⟨g,o,none⟩=false:=by
 unfold ybv at hr
 simp [World.frozen?,hr]
theorem FilK.set {N k bo bc g:Nat}{w:World}{rs:List Rel}(h:FilK N k bo bc w g rs)(hr:ybv w g rs){j:Nat}(hj:j<3){A:Option Addr}{n c:Nat}{t:Tab}(ht:rTabF w (g+1) A n t)(hc:n<=c)(hg:gTab (yhe j) (3*N) t):
 ∃ rs',FilK N k bo bc (w.setCell ⟨g,j*4+3,none⟩ (.slice A n c)) g rs'/\ybv (w.setCell ⟨g,j*4+3,none⟩ (.slice A n c)) g rs':=by
 have hs: ∀ b,g+1<=b->b<w.heap.size->(w.setCell ⟨g,j*4+3,none⟩ (.slice A n c)).heap[b]?=w.heap[b]?:=fun b hb _=>Below.heap_setCell _ _ _ _ (by show b≠g;omega)
 obtain ⟨r0,r1,r2,rfl,⟨A0,n0,c0,t0,rfl,a2,a3,a4⟩,⟨A1,n1,c1,t1,rfl,b2,b3,b4⟩,⟨A2,n2,c2,t2,rfl,d2,d3,d4⟩⟩:=h
 unfold ybv at hr
 have ht2:=ht.other hs
 match j,hj with
 |0,_=>exact ⟨_,⟨_,_,_,rfl,⟨A,n,c,t,rfl,ht2,hc,hg⟩,⟨A1,n1,c1,t1,rfl,b2.other hs,b3,b4⟩,⟨A2,n2,c2,t2,rfl,d2.other hs,d3,d4⟩⟩,(heap_setCell_same w g 3 _ 31 _ hr).trans rfl⟩
 |1,_=>exact ⟨_,⟨_,_,_,rfl,⟨A0,n0,c0,t0,rfl,a2.other hs,a3,a4⟩,⟨A,n,c,t,rfl,ht2,hc,hg⟩,⟨A2,n2,c2,t2,rfl,d2.other hs,d3,d4⟩⟩,(heap_setCell_same w g 7 _ 31 _ hr).trans rfl⟩
 |2,_=>exact ⟨_,⟨_,_,_,rfl,⟨A0,n0,c0,t0,rfl,a2.other hs,a3,a4⟩,⟨A1,n1,c1,t1,rfl,b2.other hs,b3,b4⟩,⟨A,n,c,t,rfl,ht2,hc,hg⟩⟩,(heap_setCell_same w g 11 _ 31 _ hr).trans rfl⟩
def Ydh (N:Nat)(w:World)(e:Ending)(w':World):Prop:= ∃ g bo bc rs,e= .returned (.slice (some ⟨g,0,none⟩) 3 3)/\ybv w' g rs/\FilK N 3 bo bc w' g rs/\rCol w' (some ⟨bo,0,none⟩) 4 ycf/\rCol w' (some ⟨bc,0,none⟩) 4 ybd/\
 Below w.heap.size w w'/\w.heap.size<=g/\g<w'.heap.size
theorem yn7 (A:Option Addr)(n c:Nat)(l:List Int)(N:Nat)(w:World)(h:rInt w A n l)(hc:n<=c)(hn:n<=9223372036854775807)(hc2:c<=9223372036854775807)(hN:N<=20):Calls Tryz.prog 9 #[.slice A n c, .int .i64 N] w (Ydh N w):=by
 have H:=qL h
 clear h
 go_enter Tryz.func9,Tryz.ntmps9
 go_wp2_with fail
 refine (Yhw w).mono ?_
 rintro e w0 ⟨g,bo,bc,rfl,hblk,hco,hcc,hb0,hg1,hg2,hbo,hbc,hne1,hne2⟩
 have HCO:=qL hco
 have HCC:=qL hcc
 have HB0:=qL hb0
 have HBLK:=qL hblk
 have hbo2:bo<w0.heap.size:=by
  obtain ⟨b,o,e,hl⟩:=Fl.lt hco qF qF
  cases e;exact hl
 have hbc2:bc<w0.heap.size:=by
  obtain ⟨b,o,e,hl⟩:=Fl.lt hcc qF qF
  cases e;exact hl
 have HF0:Hid (FilK N 0 bo bc w0 g [yge yct bo,yge ybo bc,yge yce bo]):=qL
  ⟨_,_,_,rfl,⟨none,0,0,[],rfl,rTabF.nil _ _ _,qV _,gTab.nil _ _⟩,⟨none,0,0,[],rfl,rTabF.nil _ _ _,qV _,gTab.nil _ _⟩,⟨none,0,0,[],rfl,rTabF.nil _ _ _,qV _,gTab.nil _ _⟩⟩
 clear hblk hco hcc hb0
 go_wp2
 go_loopw [6] (fun i wr=> ∃ (k:Nat) (rs:List Rel),k<=3/\i= .int .i64 k/\Hid (Below w.heap.size w wr)/\Hid (ybv wr g rs)/\Hid (FilK N k bo bc wr g rs)/\Hid (rCol wr (some ⟨bo,0,none⟩) 4 ycf)/\Hid (rCol wr (some ⟨bc,0,none⟩) 4 ybd)/\w0.heap.size<=wr.heap.size) (fun i _=>3 - (intOf i).toNat)
 case atStart=>exact ⟨0,_,by omega,rfl,HB0,HBLK,HF0,HCO,HCC,qV _⟩
 case round=>
  obtain ⟨k,rs,hk,rfl,HB,HR,HF,HO,HC,hsz⟩:=hrel
  by_cases hlt:k<3
  ·obtain ⟨x1,u,hu⟩:=HF.out.cells HR.out hlt
   have x2:=zbt hu
   have xf:=fun o=>FilK.frozen HR.out o
   have HCOL:Hid (rCol wr (some ⟨yrb bo bc k,0,none⟩) 4 (yhe k)):=qL (by
    unfold yhe yrb
    split
    ·exact HC.out
    ·exact HO.out)
   have hgw:g<wr.heap.size:=by omega
   have i1:(k:Int)<3:=by omega
   have i2:(0:Int)<=(k:Int):=by omega
   have m1:IntKind.i64.wrap (3*(k:Int))=3*(k:Int):=by rw [IntKind.wrap_i64];omega
   have m4:(0:Int)<=3*(k:Int):=by omega
   have m5:3*(k:Int)<=100:=by omega
   have m2:IntKind.i64.wrap ((N:Int)+1)=(N:Int)+1:=by rw [IntKind.wrap_i64];omega
   have m3: ¬ (N:Int)+1=0:=by omega
   have hS0:(fun w'=>Below w.heap.size w w'/\w'.cell? ⟨g,k*4+1,none⟩=some (.slice (some ⟨yrb bo bc k,0,none⟩) 4 4)/\w'.cell? ⟨g,k*4+3,none⟩=some (held w' ⟨g,k*4+3,none⟩)/\(∀ o,w'.frozen? ⟨g,o,none⟩=false)/\g<w'.heap.size) wr.drew:=⟨HB.out.drew,x1,x2,xf,hgw⟩
   have hng:(⟨g,k*4+3,none⟩:Addr)≠⟨g,k*4+1,none⟩:=fun e=>by simp at e
   clear hu
   go_wp2_with fail
   go_region_held3 (fun w'=>Below w.heap.size w w'/\w'.cell? ⟨g,k*4+1,none⟩=some (.slice (some ⟨yrb bo bc k,0,none⟩) 4 4)/\w'.cell? ⟨g,k*4+3,none⟩=some (held w' ⟨g,k*4+3,none⟩)/\(∀ o,w'.frozen? ⟨g,o,none⟩=false)/\g<w'.heap.size)
    ((go_split_ands;refine ⟨?_,?_,?_,?_,?_⟩<;>(with_reducible first |assumption|(refine btr ?_ qI;assumption)|(refine Below.setCell (p:=⟨g,k*4+3,none⟩) ?_ hg1 _;assumption)|exact qM qI qI|(refine zhg ?_ qI;assumption)|exact zfl qI|(rw [World.cell?_setCell_other (h:=hng)];assumption)|(intro o;refine Eq.trans (Below.frozen qI ?_) ?_<;>first |assumption|(revert o;assumption))|(intro o;rw [World.frozen?_setCell];revert o;assumption)|(refine qQ ?_ (Below.size qI);assumption)|(simp;assumption))))
    (first
     |(go_at_call 24;go_split_ands;(with_reducible refine (Yh7 _ _ _ _ _ _ (H.out.later qI) hc hn hc2 m4 m5).mono ?_);rintro e w' ⟨A4,n4,c4,l4,rfl,hr4,hc4,hn4,rfl⟩)
     |(go_at_call 25;go_split_ands;(with_reducible refine (atE' _ _ _ _ _ _ (H.out.later qI) hn).mono ?_);rintro e w' ⟨v25,rfl,hv0,hv1,hb25⟩)
     |(go_at_call 23;go_split_ands;(with_reducible refine (Yhy _ _ _ (yhe k) _ _ _ _ _ N _ (HCOL.out.later (zfx hb25)) (hr4.later hb25) qF hn4 (yo3 k) (zqn _ hv0 N).1 (zqn _ hv0 N).2 qF).mono ?_);rintro e w' ⟨A5,n5,c5,t5,rfl,hr5,hc5,hg5,hb5⟩))
   have HB5:=qL (btr (zfx hb25) hb5)
   have hg5s:g+1<=_:=qQ hgw (zfx hb25).size
   obtain ⟨rs',hF',hR'⟩:=(HF.out.later HB5.out).set ((HB5.out.block g hgw).trans HR.out) hlt (hr5.mono hg5s) hc5 hg5
   have HF':=qL hF'
   have HR':=qL hR'
   have HBF:=qL (Below.setCell (p:=⟨g,k*4+3,none⟩) (btr HB.out HB5.out) hg1 (.slice A5 n5 c5))
   have HO':=qL (Fl.set (HO.out.later HB5.out) ⟨g,k*4+3,none⟩ (.slice A5 n5 c5) (fun _ a e=>by cases e;exact hne1))
   have HC':=qL (Fl.set (HC.out.later HB5.out) ⟨g,k*4+3,none⟩ (.slice A5 n5 c5) (fun _ a e=>by cases e;exact hne2))
   have hsz':=qR hsz HB5.out.size
   clear hF' hR' hr5 hb5 hr4 hb25
   go_split_ands
   go_wp2
   go_roundw
   case rel=>exact ⟨k+1,rs',by omega,by go_num,HBF,HR',HF',HO',HC',by simpa using hsz'⟩
   case measure=>simp [intOf];omega
  ·obtain rfl:k=3:=by omega
   go_wp2
   go_ret
   exact ⟨g,bo,bc,rs,rfl,HR.out,HF.out,HO.out,HC.out,HB.out,hg1,by omega⟩
end
section
open Go.ChangeAt Go.ChangeShapes Go.RowKit Go.WideShapes
theorem own :ownKnob Tryz.prog.godebug=none:=by kernel_rfl
theorem yon :laidOutB Tryz.prog=true:=by kernel_rfl
theorem zit {H:Type}{enc:TypeId × Value->H}{P:Program}(hl:laidOutB P=true){W W':World}(hb:Below W.heap.size W W'):
 ∀ (ts:List TypeId) (vs:List Value) (ds:List (DataW H)) (ps:List MemPlace),(∀ t∈ts,P.readableRec t=true/\t<P.types.size)->(∀ x∈ps,x.block<W.heap.size)->
  DataW.TrodAll enc P W 0 (fun _=>true) true ts vs ds ps->DataW.TrodAll enc P W' 0 (fun b=>decide (b<W.heap.size)) true ts vs ds ps
 | [],vs,ds,ps,_,_,h=>by
  obtain ⟨rfl,rfl,rfl⟩:=trodAll_nil h
  exact rfl
 |t::ts,vs,ds,ps,hr,hlt,h=>by
  obtain ⟨v,vs',d,ds',p,q,rfl,rfl,rfl,h1,h2⟩:=trodAll_cons h
  have ht:=hr t qH
  exact ⟨p,q,Below.trod hl ht.1 ht.2 h1 hb (fun x hx=>hlt x (by simp [hx])),zit hl hb ts vs' ds' q (fun u hu=>hr u (by simp [hu])) (fun x hx=>hlt x (by simp [hx])) h2,rfl⟩
theorem yj1 {H:Type}{enc:TypeId × Value->H}{P:Program}{f:Func}{s:ChangeSpec}{W W':World}{args:Array Value}{ds:List (DataW H)}{before:List MemPlace}
 (hl:laidOutB P=true) (hr: ∀ t∈f.params.toList,P.readableRec t=true/\t<P.types.size) (hv:s.vars= []) {tb:TypeId} (hres:f.resultTypes= #[tb]) (htb:P.underlying tb=some .bool)
 (hW:DataW.Whole enc P f.params.toList s.vars false W args.toList ds [] before)
 (e1:(s.fn H (ds++ [])).results= [.lit (.bool true)]) (e2:(s.fn H (ds++ [])).args=ds) (e3:(s.fn H (ds++ [])).vars= [])
 (hb:Below W.heap.size W W'):s.post enc P f false true false false W args (.bool true) W':=by
 have hlt: ∀ x∈before,x.block<W.heap.size:=fun x hx=>hW.lt x hx
 have hW0:=hW
 obtain ⟨p,q,hA,hV,hpq,_,_⟩:=hW
 rw [hv] at hV
 obtain ⟨_,rfl⟩:=trodVars_none hV
 simp only [List.append_nil] at hpq
 subst hpq
 refine ⟨ds,[],before,[],before,[],hW0,?_,?_,?_,World.keptBut_mono (fun x hx=>⟨hx, .inr (.inl hx)⟩) (hb.frame (· ∈before)),fun h=>by cases h⟩
 ·rw [e1,hres]
  exact trodAll_mk1 (shut_bool htb _)
 ·rw [e2]
  exact zit hl hb _ _ _ _ hr hlt hA
 ·rw [e3,hv]
  rfl
theorem zqf (t:TypeId)(h:t=3∨t=22):Tryz.prog.wantsStandIn t=false:=by
 rcases h with rfl|rfl
 ·exact (show Tryz.prog.wantsStandIn 3=false by kernel_rfl)
 ·exact (show Tryz.prog.wantsStandIn 22=false by kernel_rfl)
theorem zi2 (xs:List Int):flat yaw xs=xs.map (Value.int .i64):=by
 induction xs with
 |nil=>rfl
 |cons x l ih=>show yaw x++flat yaw l=_;rw [ih];rfl
theorem zo4 {H:Type}{enc:TypeId × Value->H}{W:World}{a0:Option Addr}{len0 cap0:Nat}{d:DataW H}{p:List MemPlace}
 (h0:DataW.Trod enc Tryz.prog W 0 (fun _=>true) true 22 (.slice a0 len0 cap0) d p): ∃ xs,rInt W a0 len0 xs/\len0<=cap0/\cap0<=maxLen:=by
 obtain ⟨fuel,hf⟩:=h0
 rcases open_ints Tryz.underlying22 Tryz.underlying3 qG hf with ⟨hcs,_⟩|⟨x,l,c,zs,hcs,_,hl,hm,hz,_,hcell,hwz⟩
 ·simp [Value.cells] at hcs
  obtain ⟨rfl,rfl,rfl⟩:=hcs
  exact ⟨[],Fl.nil _ _ _,qV _,Nat.zero_le _⟩
 ·simp [Value.cells] at hcs
  obtain ⟨rfl,rfl,rfl⟩:=hcs
  have hz':zs.length=cap0:=by simpa using hz
  refine ⟨zs.take len0,⟨by rw [zi2,List.length_map,List.length_take];omega,fun hn=>?_⟩,hl,hm⟩
  obtain ⟨b,off,spot⟩:=x
  have hc:=hcell 0 qF
  have hspot:spot=none:=by simpa [Addr.add] using World.cell?_spot hc
  subst hspot
  refine ⟨b,off,rfl,fun j v hj=>?_⟩
  rw [zi2,List.getElem?_map] at hj
  cases hx:(zs.take len0)[j]? with
  |none=>rw [hx] at hj;cases hj
  |some y=>
   rw [hx] at hj
   cases hj
   have hjl:j<len0:=by
    have:=(qO hx).1
    rw [List.length_take] at this;omega
   have hcj:=hcell j qF
   rw [zaw] at hcj
   rw [List.getElem?_take_of_lt hjl] at hx
   rw [hcj,List.getD_eq_getElem?_getD,hx];rfl
end
section
open Go.RowKit
def zV :Val:=⟨0,0,⟨#[]⟩⟩
def cel (r:List Val)(i:Int):Val:=if 0<=i/\i<(r.length:Int) then r.getD i.toNat zV else zV
def pkV (is:List Int)(r:List Val):List Val:=is.map (cel r)
theorem zdi (is:List Int)(r:List Val):(pkV is r).length=is.length:=by simp [pkV]
end
section
open Go.BigFrame Go.RowKit
theorem zgf {α:Type}{K:Kin α α}(hD:K.D=fun _ a b=>a=b)(hp:K.ptrs=fun _=> []){w:World}{B:Nat}{v:Value}{n:Nat}{l:List α}:ownD K w B v n l↔w.ownsRow B K.e K.C v n (flat K.enc l):=by
 constructor
 ·rintro ⟨qs,h1,h2,_⟩
  rw [hD] at h2
  have e:qs=l:=zdz h2
  rw [<-e];exact h1
 ·intro h
  exact ⟨l,h,by rw [hD];exact zbg l,fun a _=>by rw [hp];intro p hp;cases hp⟩
section
variable {e:TypeId}{w w':World}{B0 B n:Nat}{v v':Value}{qs:List Prt}{ps:List (List Val × Tab)}{a:Prt}{p:List Val × Tab}{row:Option Nat}
theorem zi3 {α:Type}{enc:α->List Value}{C:Nat}(hC: ∀ x,(enc x).length=C): ∀ (l:List α) (i:Nat) (x:α),i<l.length->flat enc (l.set i x)=(flat enc l).take (i*C)++enc x++(flat enc l).drop (i*C+C)
 | [],i,x,h=>by simp at h
 |y::l,0,x,_=>by
  simp only [List.set_cons_zero,zba,Nat.zero_mul,Nat.zero_add,List.take_zero,List.nil_append]
  rw [List.drop_append,List.drop_of_length_le (by rw [hC];omega),hC]
  simp
 |y::l,i+1,x,h=>by
  have ih:=zi3 hC l i x (by simpa using h)
  have e:(i+1)*C=(enc y).length+i*C:=by rw [hC,Nat.succ_mul];omega
  rw [List.set_cons_succ,zba,zba,ih,e,List.take_length_add_append,Nat.add_assoc,List.drop_length_add_append]
  simp [List.append_assoc]
end
end
section
open Go.RowKit
def u8 (n:Int):UInt8:=UInt8.ofNat (n % 256).toNat
theorem zjw (n:Int):((u8 n).toNat:Int)=n % 256:=by
 unfold u8
 have h1:=Int.emod_nonneg n (show (256:Int)≠0 by omega)
 have h2:=Int.emod_lt_of_pos n (show (0:Int)<256 by omega)
 rw [UInt8.toNat_ofNat',Nat.mod_eq_of_lt qF]
 omega
theorem zgx {a b:Int}(h:u8 a=u8 b):a % 256=b % 256:=by rw [<-zjw,<-zjw,h]
def yb9 (n:Int):List UInt8:= [u8 (n / 16777216),u8 (n / 65536),u8 (n / 256),u8 n]
theorem zjz {a b:Int}(ha:0<=a)(ha2:a<4294967296)(hb:0<=b)(hb2:b<4294967296)(h:yb9 a=yb9 b):a=b:=by
 unfold yb9 at h
 simp only [List.cons.injEq,and_true] at h
 obtain ⟨h1,h2,h3,h4⟩:=h
 have h1:=zgx h1
 have h2:=zgx h2
 have h3:=zgx h3
 have h4:=zgx h4
 omega
def ybw (v:Val):List UInt8:=
 u8 v.k::(if v.k=1 then [u8 v.m] else if v.k=2 then yb9 (v.m+1073741824) else if v.k=4 then yb9 v.m else if v.k=3 then u8 v.s.size::v.s.data.toList else [])
def ybn (r:List Val):List UInt8:=u8 r.length::r.flatMap ybw
theorem zmv {s:ByteArray}(h:s.toList.isEmpty=true):s=⟨#[]⟩:=toList_inj (by rw [List.isEmpty_iff.1 h,ByteArray.toList_eq])
theorem za8 {v:Val}(h:yab v=true):(v=⟨0,0,⟨#[]⟩⟩)∨(∃ m,v=⟨1,m,⟨#[]⟩⟩/\(m=0∨m=1))∨(∃ m,v=⟨2,m,⟨#[]⟩⟩/\ -1073741824<=m/\m<=1073741824)∨(∃ s,v=⟨3,0,s⟩/\s.size<=64)∨(∃ m,v=⟨4,m,⟨#[]⟩⟩/\0<=m/\m<=575999999):=by
 obtain ⟨k,m,s⟩:=v
 unfold yab at h
 simp only at h
 split at h
 ·rename_i e;subst e
  simp only [Bool.and_eq_true,beq_iff_eq] at h
  exact .inl (by rw [h.1,zmv h.2])
 ·split at h
  ·rename_i e;subst e
   simp only [Bool.and_eq_true,Bool.or_eq_true,beq_iff_eq] at h
   exact .inr (.inl ⟨m,by rw [zmv h.1],h.2⟩)
  ·split at h
   ·rename_i e;subst e
    simp only [Bool.and_eq_true,decide_eq_true_eq] at h
    exact .inr (.inr (.inl ⟨m,by rw [zmv h.1.1],h.1.2,h.2⟩))
   ·split at h
    ·rename_i e;subst e
     simp only [Bool.and_eq_true,beq_iff_eq,decide_eq_true_eq] at h
     exact .inr (.inr (.inr (.inl ⟨s,by rw [h.1],h.2⟩)))
    ·split at h
     ·rename_i e;subst e
      simp only [Bool.and_eq_true,decide_eq_true_eq] at h
      exact .inr (.inr (.inr (.inr ⟨m,by rw [zmv h.1.1],h.1.2,h.2⟩)))
     ·cases h
theorem enc0 (m:Int)(s:ByteArray):ybw ⟨0,m,s⟩= [u8 0]:=rfl
theorem Ycy (m:Int)(s:ByteArray):ybw ⟨1,m,s⟩= [u8 1,u8 m]:=rfl
theorem Yeh (m:Int)(s:ByteArray):ybw ⟨2,m,s⟩=u8 2::yb9 (m+1073741824):=rfl
theorem Yei (m:Int)(s:ByteArray):ybw ⟨3,m,s⟩=u8 3::u8 s.size::s.data.toList:=rfl
theorem Yej (m:Int)(s:ByteArray):ybw ⟨4,m,s⟩=u8 4::yb9 m:=rfl
theorem zok {v:Val}(h:yab v=true):(ybw v).length<=66:=by
 rcases za8 h with rfl|⟨m,rfl,_⟩|⟨m,rfl,_⟩|⟨s,rfl,hs⟩|⟨m,rfl,_⟩
 ·decide
 ·simp [Ycy]
 ·simp [Yeh,yb9]
 ·have:s.data.toList.length=s.size:=Array.length_toList (xs:=s.data)
  rw [Yei,List.length_cons,List.length_cons,this];omega
 ·simp [Yej,yb9]
theorem zho {a b:Int}{x y:List UInt8}(h:yb9 a++x=yb9 b++y):yb9 a=yb9 b/\x=y:=List.append_inj h rfl
theorem zoj {v u:Val}(hv:yab v=true)(hu:yab u=true){x y:List UInt8}(h:ybw v++x=ybw u++y):v=u/\x=y:=by
 rcases za8 hv with rfl|⟨m,rfl,hm⟩|⟨m,rfl,hm⟩|⟨s,rfl,hs⟩|⟨m,rfl,hm⟩<;>rcases za8 hu with rfl|⟨n,rfl,hn⟩|⟨n,rfl,hn⟩|⟨t,rfl,ht⟩|⟨n,rfl,hn⟩<;>
  simp only [enc0,Ycy,Yeh,Yei,Yej,List.cons_append,List.nil_append,List.cons.injEq] at h
 all_goals first |(exact absurd h.1 (by decide))|skip
 ·exact ⟨rfl,h.2⟩
 ·have:=zgx h.2.1
  exact ⟨by rw [show m=n by omega],h.2.2⟩
 ·obtain ⟨h1,h2⟩:=zho h.2
  have:=zjz qF qF qF qF h1
  exact ⟨by rw [show m=n by omega],h2⟩
 ·have hsz:=zgx h.2.1
  have l1:s.data.toList.length=s.size:=Array.length_toList (xs:=s.data)
  have l2:t.data.toList.length=t.size:=Array.length_toList (xs:=t.data)
  obtain ⟨h1,h2⟩:=List.append_inj h.2.2 qF
  have:s=t:=ByteArray.ext (Array.ext' h1)
  exact ⟨by rw [this],h2⟩
 ·obtain ⟨h1,h2⟩:=zho h.2
  have:=zjz qF qF qF qF h1
  exact ⟨by rw [this],h2⟩
theorem zl3 : ∀ {a b:List Val} (_: ∀ v∈a,yab v=true) (_: ∀ v∈b,yab v=true) (_:a.length=b.length),a.flatMap ybw=b.flatMap ybw->a=b
 | [],[],_,_,_,_=>rfl
 | [],_::_,_,_,h,_=>by simp at h
 |_::_,[],_,_,h,_=>by simp at h
 |v::a,u::b,ha,hb,hl,h=>by
  simp only [List.flatMap_cons] at h
  obtain ⟨e,h2⟩:=zoj (ha v (List.mem_cons_self ..)) (hb u (List.mem_cons_self ..)) h
  rw [e,zl3 (fun v hv=>ha v (qW _ hv)) (fun v hv=>hb v (qW _ hv)) (by simpa using hl) h2]
def yav (r:List Val):ByteArray:=⟨(ybn r).toArray⟩
theorem yjz {a b:List Val}(ha: ∀ v∈a,yab v=true)(hb: ∀ v∈b,yab v=true)(h1:a.length<=12)(h2:b.length<=12)(h:yav a=yav b):a=b:=by
 have h:ybn a=ybn b:=by
  have:=congrArg ByteArray.data h
  simpa [yav] using this
 unfold ybn at h
 simp only [List.cons.injEq] at h
 have:=zgx h.1
 exact zl3 ha hb qF h.2
theorem zh2 : ∀ {r:List Val} (_: ∀ v∈r,yab v=true),(r.flatMap ybw).length<=r.length*66
 | [],_=>by simp
 |v::r,h=>by
  have h1:=zok (h v (List.mem_cons_self ..))
  have ih:=zh2 fun v hv=>h v (qW _ hv)
  simp only [List.flatMap_cons,List.length_append,List.length_cons]
  omega
end
section
open Go.BigFrame Go.RowKit
def yga (l:List Shf):Prop:=(∀ s∈l,1<=s.pos/\s.pos<=575999999/\ -840<=s.off/\s.off<=840)/\ ∀ (j:Nat) (a b:Shf),l[j]?=some a->l[j+1]?=some b->a.pos<b.pos
theorem Yhn (n:Int)(w:World)(h1: -840<=n)(h2:n<=840):Calls Tryz.prog 191 #[.int .i64 n] w fun e w'=>e= .returned (.bool true)/\w=w':=by
 go_enter Tryz.func191,Tryz.ntmps191
 go_wp2
 go_ret
 exact ⟨zal (by simp;try omega),rfl⟩
theorem Yi4 (z:Zon)(l:List Shf)(w:World)(h:rShf w z.shA z.shN l)(hok:yga l)(hn:z.shN<=64)(h1: -840<=z.off)(h2:z.off<=840):
 Calls Tryz.prog 125 #[.agg #[.string z.nm, .int .i64 z.off, .slice z.shA z.shN z.shC]] w fun e w'=>e= .returned (.int .i64 0)/\Below w.heap.size w w':=by
 obtain ⟨nm,off,A,n,c⟩:=z
 simp only at h hn h1 h2 ⊢
 have HT:=qL h
 have HL:=qL h.len
 have HK:=qL hok
 have d1:decide (64<n)=false:=by simp;omega
 clear h hok
 go_enter Tryz.func125,Tryz.ntmps125
 go_wp2_with (go_at_call 191;refine (Yhn _ _ h1 h2).mono ?_;rintro e w' ⟨rfl,rfl⟩)
 go_loopw [16] (fun i wr=> ∃ k:Nat,k<=n/\i= .int .i64 k/\Below (w.alloc (.cells #[.string nm, .int .i64 off, .slice A n c] 80)).heap.size (w.alloc (.cells #[.string nm, .int .i64 off, .slice A n c] 80)) wr) (fun i _=>n - (intOf i).toNat)
 case atStart=>exact ⟨0,by omega,rfl,za0 _⟩
 case round=>
  obtain ⟨k,hk,rfl,hbw⟩:=hrel
  have HBW:=qL hbw
  have hfin:=btr (zae w _) hbw
  have HFI:=qL hfin
  have z0:wr.cell? ⟨w.heap.size,2,none⟩=some (.slice A n c):=qM hbw qH
  have hsz:w.heap.size<wr.heap.size:=by have:=hbw.size;simp at this;omega
  by_cases hlt:k<n
  ·obtain ⟨b1,o1,rfl,hc1⟩:=HT.out.opn qF
   obtain ⟨x,hx⟩:=zah (l:=l) (k:=k) (by have:=HL.out;omega)
   obtain ⟨x1,x2⟩:=hc1 k x hx
   obtain ⟨q1,q2,q3,q4⟩:=HK.out.1 x (qP hx)
   have y1:=qM hfin x1
   have y2:=qM hfin x2
   have e1:decide (x.pos<1)=false:=by simp;omega
   have e2:decide (575999999<x.pos)=false:=by simp;omega
   by_cases hk0:k=0
   ·subst hk0
    simp only [Nat.zero_mul,Nat.add_zero] at y1 y2
    clear hc1 hx hbw hfin x1 x2
    go_wp2_with (go_at_call 191;refine (Yhn _ _ q3 q4).mono ?_;rintro e w' ⟨rfl,rfl⟩)
    go_quiet (fail)
    go_wp2
    go_roundw
    case rel=>exact ⟨1,by omega,by go_num,za6 (HBW.out.alloc HBW.out.size _) _⟩
    case measure=>simp [intOf];omega
   ·obtain ⟨p,hp⟩:=zah (l:=l) (k:=k - 1) (by have:=HL.out;omega)
    obtain ⟨p1,p2⟩:=hc1 (k - 1) p hp
    have hlt2:=HK.out.2 (k - 1) p x hp (by rw [show k - 1+1=k by omega];exact hx)
    have e3:decide (x.pos<=p.pos)=false:=by simp;omega
    have d3:decide (0<k)=true:=by simp;omega
    have w1:=qM hfin p1
    have i0:(1:Int)<=(k:Int):=by omega
    have i1:IntKind.i64.wrap ((k:Int) - 1)=(k:Int) - 1:=by rw [IntKind.wrap_i64];omega
    have i2:((k:Int) - 1).toNat=k - 1:=by omega
    have i3:(k:Int) - 1<n:=by omega
    have i4:(0:Int)<=(k:Int) - 1:=by omega
    have v1:=qM (zae wr (.cells #[.int .i64 x.pos, .int .i64 x.off] 88)) w1
    have v0:=qM (zae wr (.cells #[.int .i64 x.pos, .int .i64 x.off] 88)) z0
    clear hc1 hx hbw hfin x1 x2 hp p1 p2 hlt2 hk0
    go_wp2_with (go_at_call 191;refine (Yhn _ _ q3 q4).mono ?_;rintro e w' ⟨rfl,rfl⟩)
    go_quiet (fail)
    go_wp2
    go_roundw
    case rel=>exact ⟨k+1,by omega,by go_num,za6 (HBW.out.alloc HBW.out.size _) _⟩
    case measure=>simp [intOf];omega
  ·go_wp2
   go_ret
   exact ⟨zak rfl,hfin⟩
def dZon (w:World)(z:Zon)(l:List Shf):Prop:=rShf w z.shA z.shN l
def yy5 (z:Zon)(l:List Shf):Prop:=yga l/\z.shN<=64/\ -840<=z.off/\z.off<=840
theorem Ycs (A:Option Addr)(n c:Nat)(zs:List Zon)(ls:List (List Shf))(w:World)(h:rZon w A n zs)(hd:dAll (fun z l=>dZon w z l/\yy5 z l) zs ls)(hn:n<=1000):
 Calls Tryz.prog 90 #[.slice A n c] w fun e w'=>e= .returned (.int .i64 0)/\Below w.heap.size w w':=by
 have HT:=qL h
 have HL:=qL h.len
 have HD:=qL hd
 clear h hd
 go_enter Tryz.func90,Tryz.ntmps90
 go_wp2
 go_loopw [8] (fun i wr=> ∃ k:Nat,k<=n/\i= .int .i64 k/\Below w.heap.size w wr) (fun i _=>n - (intOf i).toNat)
 case atStart=>exact ⟨0,by omega,rfl,za0 _⟩
 case round=>
  obtain ⟨k,hk,rfl,hbw⟩:=hrel
  have HBW:=qL hbw
  by_cases hlt:k<n
  ·obtain ⟨b1,o1,rfl,hc1⟩:=HT.out.opn qF
   obtain ⟨x,hx⟩:=zah (l:=zs) (k:=k) (by have:=HL.out;omega)
   obtain ⟨l,hl,hr,q1,q2,q3,q4⟩:=HD.out.get hx
   obtain ⟨x1,x2,x3⟩:=hc1 k x hx
   have y1:=qM hbw x1
   have y2:=qM hbw x2
   have y3:=qM hbw x3
   have HZ:=qL (Yi4 x l (wr.alloc (.cells #[.string x.nm, .int .i64 x.off, .slice x.shA x.shN x.shC] 80)) (rShf.later hr (btr hbw (zae _ _))) q1 q2 q3 q4)
   clear hc1 hx hl hr q1 q2 q3 q4 x1 x2 x3 hbw
   go_wp2_with (go_at_call 125;refine (HZ.out).mono ?_;rintro e w' ⟨rfl,hb⟩)
   go_roundw
   case rel=>exact ⟨k+1,by omega,by go_num,btr HBW.out (btr (zae _ _) hb)⟩
   case measure=>simp [intOf];omega
  ·go_wp2
   go_ret
   exact ⟨zak rfl,hbw⟩
end
end
section
section
open Go.BigFrame Go.RowKit
section
variable {α β:Type}{K:Kin α β}{P:Program}{t:TypeId}{i:TypeInfo}{z:Value}{bytes:Nat}
theorem zfw {base e size n:Nat}{v:Value}{xs:List Value}(w:World)(ht:P.underlying t=some (.slice e))(hi:P.info? e=some i)(ty:TypeId)(c:Nat)(hown:w.ownsRow base e size v n xs):(Builtin.append_ #[t,t] ty #[v, .slice none 0 c]).run P w= .ok v w:=by
 rcases hown.2 with ⟨rfl,rfl⟩|⟨g,cap,cur,rfl,_,_,hnc,_⟩
 ·simp [Builtin.append_,run_underlying ht,sizeOf,typeInfo,hi,Builtin.lenOf,Builtin.firstCells]
 ·simp [Builtin.append_,run_underlying ht,sizeOf,typeInfo,hi,Builtin.lenOf,Builtin.firstCells,hnc,storeCells]
theorem ypi (hP:KinP P K t i z bytes)(w:World){base n0:Nat}{v:Value}{l0:List β}(h0:ownD K w base v n0 l0){A:Option Addr}{n c:Nat}{l:List β}{ls:List α}(h1:Fl w K.C A n (flat K.enc ls))(h2:dAll (K.D w) ls l)(ty:TypeId)(hn:n0+n<1000000)(hbase:base<=w.heap.size)
 (hfa: ∀ a∈ls,yau (K.ptrs a) v.ownBlock):
 ∃ v' w',(Builtin.append_ #[t,t] ty #[v, .slice A n c]).run P w= .ok v' w'/\ownD K w' base v' (n0+n) (l0++l)/\w.grownBy w' v.ownBlock/\(v'.ownBlock=v.ownBlock∨v'.ownBlock=some w.heap.size):=by
 obtain ⟨as0,g1,g2,g3⟩:=h0
 cases A with
 |none=>
  have hn0:n=0:=by
   rcases Nat.eq_zero_or_pos n with h0|h0
   ·exact h0
   ·obtain ⟨b,off,e,_⟩:=h1.2 h0
    cases e
  subst hn0
  have hl:ls= []:=List.eq_nil_of_length_eq_zero (by have:=h1.count K.len K.pos;omega)
  subst hl
  have hl2:l= []:=List.eq_nil_of_length_eq_zero (by have:=h2.len;simpa using this.symm)
  subst hl2
  exact ⟨_,_,zfw w hP.ht hP.hi ty c g1,⟨as0,g1,by simpa using g2,g3⟩,World.grownBy.refl w _, .inl rfl⟩
 |some ad=>
  obtain ⟨v',w',hr,k1,k2,_,k4⟩:=run_append_own_at (P:=P) w base t ty K.e i z K.C bytes hP.ht hP.hi hP.hz hP.hs hP.hb hP.hzs K.pos v n0 _ g1 ad n c (flat K.enc ls) h1.1 h1.news
   (fun u hu=>by obtain ⟨x,_,hx⟩:=List.mem_flatMap.1 hu;exact K.one x u hx) (by unfold maxLen;omega)
   (by have:=hP.small;have h5:(n0+n)*bytes<=1000000*1000:=Nat.mul_le_mul qF this;omega) hbase
  have hrow: ∀ a'∈as0++ls,yau (K.ptrs a') v.ownBlock:=fun a' ha'=>(List.mem_append.1 ha').elim (g3 a') (hfa a')
  have hdeep:dAll (K.D w) (as0++ls) (l0++l):=g2.append h2
  refine ⟨v',w',hr,⟨as0++ls,by rw [zc2];exact k1,?_,?_⟩,k2,k4⟩
  ·exact dAll.of_get hdeep.len fun j x y hx hy=>by
    obtain ⟨y',hy',hr'⟩:=hdeep.get hx
    rw [hy] at hy'
    cases hy'
    exact K.kept hr' k2 (hrow x (qP hx))
  ·intro a' ha' p hp hp0 ad' had'
   obtain ⟨j,hj⟩:=List.getElem?_of_mem ha'
   obtain ⟨y',hy',hr'⟩:=hdeep.get hj
   have hlt:=K.lt hr' p hp hp0 ad' had'
   rcases k4 with e|e
   ·rw [e];exact hrow a' ha' p hp hp0 ad' had'
   ·rw [e];intro e2;injection e2 with e2;omega
variable (w:World){ops:Array Oper}{rest:List Oper}{o:Oper}{a:Act}{Q:Exit->Act->World->Prop}
theorem zc1 (hg:o.guard=none)(s x:Operand)(hop:o.op=Op.call { callee:=Callee.builtin Builtin.append,args:= #[s,x],argTypes:= #[t,t]})
 (hP:KinP P K t i z bytes) {base n0:Nat} {v:Value} {l0:List β} (h0:ownD K w base v n0 l0) {A:Option Addr} {n c:Nat} {l:List β} {ls:List α} (h1:Fl w K.C A n (flat K.enc ls)) (h2:dAll (K.D w) ls l) (hs:a.eval s=v) (hx:a.eval x= .slice A n c) (hn:n0+n<1000000) (hbase:base<=w.heap.size)
 (hfa: ∀ a∈ls,yau (K.ptrs a) v.ownBlock)
 (hK: ∀ v' w',ownD K w' base v' (n0+n) (l0++l)->w.grownBy w' v.ownBlock->(v'.ownBlock=v.ownBlock∨v'.ownBlock=some w.heap.size)->wpList P ops Q rest (a.put o.dst v') w'):wpList P ops Q (o::rest) a w:=by
 refine wpList_plain hg fun K' hK'=>?_
 obtain ⟨v',w',hr,h5,h6,h7⟩:=ypi hP w h0 h1 h2 o.type hn hbase hfa (c:=c)
 unfold Oper.wp execOp
 simp only [hop,resolve,invoke,builtin,Sem.run_bind,Sem.run_pure,Result.andThen_ok,List.map_toArray,List.map_cons,List.map_nil,hs,hx,hr]
 exact hK' _ _ (hK v' w' h5 h6 h7)
end
def yg9 {α β:Type}(K:Kin α β)(n:Nat)(l:List β)(w:World)(e:Ending)(w':World):Prop:=
 ∃ A c,e= .returned (.slice A n c)/\rD K w' A n l/\n<=c/\Below w.heap.size w w'/\(∀ a,A=some a->w.heap.size<=a.block/\a.block<w'.heap.size)/\ownD K w' w.heap.size (.slice A n c) n l
theorem zmq {α β:Type}(K:Kin α β)(w:World):ownD K (w.alloc (.cells #[] K.e)) w.heap.size (.slice (some ⟨w.heap.size,0,none⟩) 0 0) 0 []:=
 ⟨[],World.ownsRow_made w #[] 0 (qV _) (Nat.zero_le _) qH,trivial,fun a h=>by cases h⟩
theorem yjd (A:Option Addr)(n c:Nat)(l:List _)(w:World)(h:rD kVal w A n l)(hn:n<=100000):Calls Tryz.prog 72 #[.slice A n c] w (yg9 kVal n l w):=by
 obtain ⟨iV,PV⟩:=yy8
 have qe: ∀ W,(binOp .eql 63 (.slice A n c) (.slice none 0 0)).run Tryz.prog W= .ok (.bool A.isNone) W:=fun W=>Lib.run_eql_slice_nil (P:=Tryz.prog) W 63 46 A n c 0 0 Tryz.underlying63
 have H:=qL h
 cases A with
 |none=>
  obtain ⟨ls,h1,h2⟩:=h
  have hn0:n=0:=by
   rcases Nat.eq_zero_or_pos n with h0|h0
   ·exact h0
   ·obtain ⟨b,off,e,_⟩:=h1.2 h0
    cases e
  subst hn0
  have hl:=H.out.len
  have hl2:l= []:=List.eq_nil_of_length_eq_zero hl
  subst hl2
  clear h1 h2 hl
  go_enter Tryz.func72,Tryz.ntmps72
  go_wp2
  go_ret
  exact ⟨_,0,rfl,rD.nil _ _,qV _,za0 _,(fun a h=>by cases h),ownD.nil _ _⟩
 |some ad=>
  obtain ⟨ls,h1,h2⟩:=h
  have F1:=qL h1
  have F2:=qL h2
  have F3:Hid (∀ a∈ls,yau (kVal.ptrs a) (Value.slice (some ⟨w.heap.size,0,none⟩) 0 0).ownBlock):=qL (fun a ha p hp h0 ad' e e2=>by
   obtain ⟨j,hj⟩:=List.getElem?_of_mem ha
   obtain ⟨y,hy,hr⟩:=h2.get hj
   have:=kVal.lt hr p hp h0 ad' e
   simp [Value.ownBlock] at e2
   omega)
  clear h1 h2
  go_enter Tryz.func72,Tryz.ntmps72
  go_wp2_with (at_builtin;refine zc1 _ rfl _ _ rfl PV (zmq kVal w) (F1.out.later (zae _ _)) (F2.out.imp fun _ _ h=>kVal.later h (zae _ _)) rfl rfl qF qH F3.out ?_;intro v1 w1 hown hg hat)
  rw [Nat.zero_add,List.nil_append] at hown
  obtain ⟨A1,c1,rfl,hcc,hrd,hfr⟩:=hown.rd
  have HR:=qL hrd
  have HOW:=qL hown
  have HFR:=qL hfr
  have HB:=qL (Below.trans (zae w _) (za9 hg qH (fun k e=>by simp [Value.ownBlock] at e;omega)))
  clear hown hrd hg hat hfr
  go_wp2
  go_ret
  exact ⟨_,_,rfl,HR.out,hcc,HB.out,HFR.out,HOW.out⟩
theorem Yea (A:Option Addr)(n c:Nat)(l:List _)(w:World)(h:rD kEnt w A n l)(hn:n<=100000):Calls Tryz.prog 251 #[.slice A n c] w (yg9 kEnt n l w):=by
 obtain ⟨iV,PV⟩:=ymt
 have qe: ∀ W,(binOp .eql 29 (.slice A n c) (.slice none 0 0)).run Tryz.prog W= .ok (.bool A.isNone) W:=fun W=>Lib.run_eql_slice_nil (P:=Tryz.prog) W 29 65 A n c 0 0 Tryz.underlying29
 have H:=qL h
 cases A with
 |none=>
  obtain ⟨ls,h1,h2⟩:=h
  have hn0:n=0:=by
   rcases Nat.eq_zero_or_pos n with h0|h0
   ·exact h0
   ·obtain ⟨b,off,e,_⟩:=h1.2 h0
    cases e
  subst hn0
  have hl:=H.out.len
  have hl2:l= []:=List.eq_nil_of_length_eq_zero hl
  subst hl2
  clear h1 h2 hl
  go_enter Tryz.func251,Tryz.ntmps251
  go_wp2
  go_ret
  exact ⟨_,0,rfl,rD.nil _ _,qV _,za0 _,(fun a h=>by cases h),ownD.nil _ _⟩
 |some ad=>
  obtain ⟨ls,h1,h2⟩:=h
  have F1:=qL h1
  have F2:=qL h2
  have F3:Hid (∀ a∈ls,yau (kEnt.ptrs a) (Value.slice (some ⟨w.heap.size,0,none⟩) 0 0).ownBlock):=qL (fun a ha p hp h0 ad' e e2=>by
   obtain ⟨j,hj⟩:=List.getElem?_of_mem ha
   obtain ⟨y,hy,hr⟩:=h2.get hj
   have:=kEnt.lt hr p hp h0 ad' e
   simp [Value.ownBlock] at e2
   omega)
  clear h1 h2
  go_enter Tryz.func251,Tryz.ntmps251
  go_wp2_with (at_builtin;refine zc1 _ rfl _ _ rfl PV (zmq kEnt w) (F1.out.later (zae _ _)) (F2.out.imp fun _ _ h=>kEnt.later h (zae _ _)) rfl rfl qF qH F3.out ?_;intro v1 w1 hown hg hat)
  rw [Nat.zero_add,List.nil_append] at hown
  obtain ⟨A1,c1,rfl,hcc,hrd,hfr⟩:=hown.rd
  have HR:=qL hrd
  have HOW:=qL hown
  have HFR:=qL hfr
  have HB:=qL (Below.trans (zae w _) (za9 hg qH (fun k e=>by simp [Value.ownBlock] at e;omega)))
  clear hown hrd hg hat hfr
  go_wp2
  go_ret
  exact ⟨_,_,rfl,HR.out,hcc,HB.out,HFR.out,HOW.out⟩
theorem zff (v:Val)(w:World)(h:yab v=true):Calls Tryz.prog 128 #[.agg #[.int .i64 v.k, .int .i64 v.m, .string v.s]] w fun e w'=>e= .returned (.bool true)/\Below w.heap.size w w':=
 (zm1 v.k v.m v.s w).mono fun e w' ⟨h1,h2⟩=>⟨by rw [h1];exact zal h,h2⟩
theorem zoy (rA:Option Addr)(rN rC:Nat)(r:List Val)(c:Int)(w:World)(hr:rVal w rA rN r)(h12:r.length<=12)(hv:vOk r)(h1: -65536<=c)(h2:c<=65536):
 Calls Tryz.prog 95 #[.agg #[.slice rA rN rC, .int .i64 c]] w fun e w'=>e= .returned (.int .i64 0)/\Below w.heap.size w w':=by
 have HR:=qL hr
 have HL:=qL hr.len
 have HV:=qL hv
 have hrN:rN<=12:=by have:=hr.len;omega
 have d12:decide (12<rN)=false:=by simp;omega
 have d1:decide (c< -65536)=false:=by simp;omega
 have d2:decide (65536<c)=false:=by simp;omega
 clear hr hv
 go_enter Tryz.func95,Tryz.ntmps95
 go_wp2
 go_loopw [22] (fun i wr=> ∃ k:Nat,k<=rN/\i= .int .i64 k/\Below w.heap.size w wr) (fun i _=>rN - (intOf i).toNat)
 case atStart=>exact ⟨0,by omega,rfl,zae _ _⟩
 case round=>
  obtain ⟨k,hk,rfl,hbw⟩:=hrel
  have HBW:=qL hbw
  by_cases hlt:k<rN
  ·obtain ⟨b1,o1,rfl,hc1⟩:=(HR.out.later hbw).opn qF
   obtain ⟨x,hx⟩:=zah (l:=r) (k:=k) (by have:=HL.out;omega)
   obtain ⟨x1,x2,x3⟩:=hc1 k x hx
   have hvx:=HV.out x (qP hx)
   clear hc1 hx hbw
   go_wp2_with (go_at_call 128;refine (zff x _ hvx).mono ?_;rintro e w' ⟨rfl,hb⟩)
   go_roundw
   case rel=>exact ⟨k+1,by omega,by go_num,btr HBW.out (btr (zae _ _) hb)⟩
   case measure=>simp [intOf];omega
  ·go_wp2
   go_ret
   exact ⟨zak rfl,hbw⟩
def yaq (b:UInt8):List Value:= [.int .u8 (b.toNat:Int)]
theorem zf4 (b:UInt8):(yaq b).length=1:=rfl
def kByte :Kin UInt8 UInt8 where
 enc:=yaq
 C:=1
 e:=5
 ptrs:=fun _=> []
 D:=fun _ a b=>a=b
 len:=zf4
 pos:=by omega
 one:=fun x u hu=>by simp [yaq] at hu;subst hu;rfl
 later:=fun h _=>h
 kept:=fun h _ _=>h
 lt:=fun _ p hp=>by cases hp
theorem yyn :(Tryz.prog.info? 5).map (fun i=>(i.zero,i.size,i.bytes))=some (some (.int .u8 0),1,1):=by kernel_rfl
theorem yo9 : ∃ i,KinP Tryz.prog kByte 185 i (.int .u8 0) 1:=by
 obtain ⟨i0,hi,hz0,hz1,hz2⟩:=info_parts yyn
 exact ⟨i0,⟨Tryz.underlying185,hi,hz0,hz1,hz2,rfl,by omega⟩⟩
def Ydf (B:Nat)(v:Value)(n:Nat)(l:List UInt8)(w:World)(e:Ending)(w':World):Prop:= ∃ v',e= .returned v'/\ownD kByte w' B v' n l/\w.grownBy w' v.ownBlock
theorem znb (l:List UInt8)(w:World)(t:Nat):Fl (w.alloc (.cells (flat yaq l).toArray t)) 1 (some ⟨w.heap.size,0,none⟩) l.length (flat yaq l):=
 za7 (by rw [zau zf4]) fun j u h=>by
  rw [Nat.zero_add]
  have:=zaa (W:=w) (cs:=(flat yaq l).toArray) (t:=t) (b:=w.heap.size) (j:=j) (u:=u) rfl (by simpa using h)
  exact this
theorem zkq {a b c:World}{row:Option Nat}(h:a.grownBy b row)(k:b.grownBy c row):a.grownBy c row:=
 ⟨k.os.trans h.os,k.tape.trans h.tape,k.output.trans h.output,qR h.size k.size,fun x hx hne=>(k.block x (qQ hx h.size) hne).trans (h.block x hx hne)⟩
theorem Ycl (B:Nat)(v:Value)(n:Nat)(l:List UInt8)(m:Int)(w:World)(ho:ownD kByte w B v n l)(hn:n<1000)(hB:B<=w.heap.size)(h0:0<=m)(h1:m<=4294967295):
 Calls Tryz.prog 284 #[v, .int .i64 m] w (Ydf B v (n+4) (l++yb9 m) w):=by
 obtain ⟨iE,PE⟩:=yo9
 have HO:=qL ho
 have hv0: ∀ j,v.ownBlock=some j->B<=j/\j<w.heap.size:=ho.lt
 have HV0:=qL hv0
 obtain ⟨vA,vc,rfl,_,_,_⟩:=ho.rd
 clear ho hv0
 have HF4:Hid (Fl (w.alloc (.cells #[.int .u8 (m / 16777216), .int .u8 (m / 65536 % 256), .int .u8 (m / 256 % 256), .int .u8 (m % 256)] 5)) 1 (some ⟨w.heap.size,0,none⟩) 4 (flat yaq (yb9 m))):=qL (by
  have e:(flat yaq (yb9 m)).toArray= #[Value.int .u8 (m / 16777216), .int .u8 (m / 65536 % 256), .int .u8 (m / 256 % 256), .int .u8 (m % 256)]:=by
   have e1:m / 16777216 % 256=m / 16777216:=by omega
   simp [flat,yb9,yaq,zjw,e1]
  have:=znb (yb9 m) w 5
  rw [e] at this
  exact this)
 have HG1:Hid (w.grownBy (w.alloc (.cells #[.int .u8 (m / 16777216), .int .u8 (m / 65536 % 256), .int .u8 (m / 256 % 256), .int .u8 (m % 256)] 5)) (Value.slice vA n vc).ownBlock):=qL (World.grownBy_alloc w _ _)
 go_enter Tryz.func284,Tryz.ntmps284
 go_wp2_with (at_builtin;refine zc1 _ rfl _ _ rfl PE (HO.out.later (zae _ _)) HF4.out (zbg _) rfl rfl qF (qR hB (zae w _).size) (fun a h p hp=>by cases hp) ?_;intro v1 w1 hown hg hat)
 have HOF:=qL hown
 have HGF:=qL (zkq HG1.out hg)
 clear hown hg hat
 go_wp2
 go_ret
 exact ⟨v1,rfl,HOF.out,HGF.out⟩
theorem zb9 (w:World)(k:Nat)(hk:k<256):(∀ j u,(yaq (u8 k))[j]?=some u->(w.alloc (.cells #[.int .u8 (k:Int)] 5)).cell? ((⟨w.heap.size,0,none⟩:Addr).add j)=some u):=fun j u h=>by
 have e:(k:Int) % 256=k:=by omega
 match j,h with
 |0,h=>simp [yaq,zjw,e] at h;subst h;simp [Addr.add]
theorem zox (l:List UInt8):flat yaq l=l.map fun b=>Value.int .u8 (b.toNat:Int):=by
 induction l with
 |nil=>rfl
 |cons x l ih=>rw [zba,ih];rfl
theorem ne3 {g:Nat}{v v3:Value}{w2:World}{o:Obj}(hne:some g≠v.ownBlock)(hat:v3.ownBlock=v.ownBlock∨v3.ownBlock=some (w2.alloc o).heap.size)(hlt:g<w2.heap.size):some g≠v3.ownBlock:=fun e=>by
 rcases hat with h|h
 ·exact hne (e.trans h)
 ·have h2:=e.trans h
  injection h2 with h2
  simp at h2
  omega
theorem yo7 {w:World}{B n:Nat}{v:Value}{l:List UInt8}{s:ByteArray}(h:w.ownsRow B 5 1 v (n+s.size) (flat yaq l++Lib.strCells s)):ownD kByte w B v (n+s.size) (l++s.data.toList):=
 (zgf (K:=kByte) rfl rfl).2 (by
  have e:flat yaq (l++s.data.toList)=flat yaq l++Lib.strCells s:=by
   rw [zc2]
   congr 1
   exact zox _
  exact e ▸ h)
theorem own_at {α β:Type}{K:Kin α β}{w:World}{B n:Nat}{v:Value}{l l':List β}(h:ownD K w B v n l)(e:l'=l):ownD K w B v l'.length l':=by
 subst e
 have:=h.len
 rw [this];exact h
def EncR (r:List Val)(w:World)(e:Ending)(w':World):Prop:= ∃ A n c,e= .returned (.tuple #[.slice A n c, .int .i64 0])/\rD kByte w' A n (ybn r)/\Below w.heap.size w w'
theorem yh3 (rA:Option Addr)(rN rC:Nat)(r:List Val)(w:World)(hr:rVal w rA rN r)(h12:rN<=12)(hv: ∀ v∈r,yab v=true):Calls Tryz.prog 254 #[.slice rA rN rC] w (EncR r w):=by
 obtain ⟨iE,PE⟩:=yo9
 obtain ⟨i0,hi0,hz0,hz1,hz2⟩:=info_parts yyn
 have HR:=qL hr
 have HL:=qL hr.len
 have HV:=qL hv
 have d12:decide (12<rN)=false:=by simp;omega
 have e1:(rN:Int) % 256=rN:=by omega
 have H0:Hid (ownD kByte (w.alloc (.cells #[.int .u8 (rN:Int)] 5)) w.heap.size (.slice (some ⟨w.heap.size,0,none⟩) 1 1) 1 [u8 rN]):=qL ⟨[u8 rN],⟨rfl, .inr ⟨w.heap.size,1,#[.int .u8 (rN:Int)],rfl,qV _,heap_alloc_new w _,qV _,by unfold maxLen;omega,rfl,by simp [flat,kByte,yaq,zjw,e1]⟩⟩,⟨rfl,trivial⟩,fun a h p hp=>by cases hp⟩
 have HB0:Hid (Below w.heap.size w (w.alloc (.cells #[.int .u8 (rN:Int)] 5))):=qL (zae _ _)
 clear hr hv
 go_enter Tryz.func254,Tryz.ntmps254
 go_wp2
 go_loopw [4,16] (fun v i wr=> ∃ (k:Nat),k<=rN/\i= .int .i64 k/\Below w.heap.size w wr/\Hid (ownD kByte wr w.heap.size v (u8 r.length::(r.take k).flatMap ybw).length (u8 r.length::(r.take k).flatMap ybw))) (fun _ i _=>rN - (intOf i).toNat)
 case atStart=>exact ⟨0,by omega,rfl,HB0.out,qL (by have:=HL.out;subst this;exact H0.out)⟩
 case round=>
  obtain ⟨k,hk,rfl,hbw,HO⟩:=hrel
  have HBW:=qL hbw
  by_cases hlt:k<rN
  ·obtain ⟨b1,o1,rfl,hc1⟩:=(HR.out.later hbw).opn qF
   obtain ⟨x,hx⟩:=zah (l:=r) (k:=k) (by have:=HL.out;omega)
   obtain ⟨x1,x2,x3⟩:=hc1 k x hx
   have hvx:=HV.out x (qP hx)
   have HTK:Hid (u8 r.length::(r.take (k+1)).flatMap ybw=(u8 r.length::(r.take k).flatMap ybw)++ybw x):=qL (by rw [zbc hx];simp)
   have hlen:(u8 r.length::(r.take k).flatMap ybw).length<900:=by
    have:=zh2 (r:=r.take k) fun v hv=>HV.out v (List.mem_of_mem_take hv)
    have h2:=List.length_take (i:=k) (l:=r)
    simp only [List.length_cons]
    omega
   have HV0:Hid (∀ j,u4.ownBlock=some j->w.heap.size<=j/\j<wr.heap.size):=qL HO.out.lt
   have hne:some wr.heap.size≠u4.ownBlock:=fun e=>by have:=HV0.out _ e.symm;omega
   generalize u8 r.length::(r.take k).flatMap ybw=l at HO HTK hlen
   clear hc1 hx hbw
   rcases za8 hvx with rfl|⟨m,rfl,rfl|rfl⟩|⟨m,rfl,hm⟩|⟨s,rfl,hs⟩|⟨m,rfl,hm⟩
   ·have HVX:=qL hvx
    simp only at x1 x2 x3
    clear hvx
    go_wp2_with fail
    refine (zff _ _ HVX.out).mono ?_
    rintro e w2 ⟨rfl,hb2⟩
    have HB2:=qL (btr (zae wr _) hb2)
    have c0:w2.cell? ⟨wr.heap.size,0,none⟩=some (.int .i64 0):=qM hb2 qH
    have c1:w2.cell? ⟨wr.heap.size,1,none⟩=some (.int .i64 0):=qM hb2 qH
    have c2:w2.cell? ⟨wr.heap.size,2,none⟩=some (.string ⟨#[]⟩):=qM hb2 qH
    have HSZ:Hid (w.heap.size<=(w2.alloc (.cells #[.int .u8 0] 5)).heap.size):=qL (qR HBW.out.size (qR HB2.out.size (zae w2 _).size))
    have HLT:Hid (wr.heap.size<w2.heap.size):=qL (qX _ _ c0)
    have HOA:Hid (ownD kByte (w2.alloc (.cells #[.int .u8 0] 5)) w.heap.size u4 l.length l):=qL (HO.out.later (HB2.out.alloc HB2.out.size _))
    have HCL:Hid (∀ j u,(yaq (u8 0))[j]?=some u->(w2.alloc (.cells #[.int .u8 0] 5)).cell? ((⟨w2.heap.size,0,none⟩:Addr).add j)=some u):=qL (zb9 w2 0 qF)
    have hl1:l.length<1000000:=by omega
    have hl2:l.length+1<1000000:=by omega
    have hl3:l.length+1<1000:=by omega
    clear hb2
    go_wp2_with (first |(at_builtin;refine zaq _ rfl _ _ rfl PE HOA.out ⟨_,0,none⟩ (u8 0) (u8 0) rfl rfl HCL.out rfl (fun p hp=>by cases hp) hl1 HSZ.out ?_;intro v3 w3 hown3 hg3 hat3;have HO3:=qL hown3;have HBF:=qL (zaf (btr HBW.out (HB2.out.alloc HB2.out.size (.cells #[.int .u8 0] 5))) hg3 (fun k e=>(HV0.out k e).1));have HV3:Hid (∀ j,v3.ownBlock=some j->w.heap.size<=j/\j<w3.heap.size):=qL hown3.lt;have hne3:some wr.heap.size≠v3.ownBlock:=ne3 hne hat3 HLT.out;have d0:=hg3.cell (qM (zae w2 (.cells #[.int .u8 0] 5)) c0) hne;have d1:=hg3.cell (qM (zae w2 (.cells #[.int .u8 0] 5)) c1) hne;have d2:=hg3.cell (qM (zae w2 (.cells #[.int .u8 0] 5)) c2) hne;clear hown3 hg3 hat3 c0 c1 c2)|fail)
    go_roundw
    case rel=>exact ⟨k+1,by omega,by go_num,HBF.out,qL (own_at HO3.out (by rw [HTK.out];simp [enc0]))⟩
    case measure=>simp [intOf];omega
   ·have HVX:=qL hvx
    simp only at x1 x2 x3
    clear hvx
    go_wp2_with fail
    refine (zff _ _ HVX.out).mono ?_
    rintro e w2 ⟨rfl,hb2⟩
    have HB2:=qL (btr (zae wr _) hb2)
    have c0:w2.cell? ⟨wr.heap.size,0,none⟩=some (.int .i64 1):=qM hb2 qH
    have c1:w2.cell? ⟨wr.heap.size,1,none⟩=some (.int .i64 0):=qM hb2 qH
    have c2:w2.cell? ⟨wr.heap.size,2,none⟩=some (.string ⟨#[]⟩):=qM hb2 qH
    have HSZ:Hid (w.heap.size<=(w2.alloc (.cells #[.int .u8 1] 5)).heap.size):=qL (qR HBW.out.size (qR HB2.out.size (zae w2 _).size))
    have HLT:Hid (wr.heap.size<w2.heap.size):=qL (qX _ _ c0)
    have HOA:Hid (ownD kByte (w2.alloc (.cells #[.int .u8 1] 5)) w.heap.size u4 l.length l):=qL (HO.out.later (HB2.out.alloc HB2.out.size _))
    have HCL:Hid (∀ j u,(yaq (u8 1))[j]?=some u->(w2.alloc (.cells #[.int .u8 1] 5)).cell? ((⟨w2.heap.size,0,none⟩:Addr).add j)=some u):=qL (zb9 w2 1 qF)
    have hl1:l.length<1000000:=by omega
    have hl2:l.length+1<1000000:=by omega
    have hl3:l.length+1<1000:=by omega
    clear hb2
    have HK:Hid (0<256):=qL qF
    go_wp2_with (first |(at_builtin;refine zaq _ rfl _ _ rfl PE HOA.out ⟨_,0,none⟩ (u8 1) (u8 1) rfl rfl HCL.out rfl (fun p hp=>by cases hp) hl1 HSZ.out ?_;intro v3 w3 hown3 hg3 hat3;have HO3:=qL hown3;have HBF:=qL (zaf (btr HBW.out (HB2.out.alloc HB2.out.size (.cells #[.int .u8 1] 5))) hg3 (fun k e=>(HV0.out k e).1));have HV3:Hid (∀ j,v3.ownBlock=some j->w.heap.size<=j/\j<w3.heap.size):=qL hown3.lt;have hne3:some wr.heap.size≠v3.ownBlock:=ne3 hne hat3 HLT.out;have d0:=hg3.cell (qM (zae w2 (.cells #[.int .u8 1] 5)) c0) hne;have d1:=hg3.cell (qM (zae w2 (.cells #[.int .u8 1] 5)) c1) hne;have d2:=hg3.cell (qM (zae w2 (.cells #[.int .u8 1] 5)) c2) hne;clear hown3 hg3 hat3 c0 c1 c2)|(at_builtin;refine zaq _ rfl _ _ rfl PE (HO3.out.later (zae _ _)) ⟨_,0,none⟩ (u8 0) (u8 0) rfl rfl (zb9 w3 0 HK.out) rfl (fun p hp=>by cases hp) hl2 (qR HBF.out.size (zae w3 _).size) ?_;intro v4 w4 hown4 hg4 hat4;have HO4:=qL hown4;have HBG:=qL (zaf (btr HBF.out (zae w3 (.cells #[.int .u8 0] 5))) hg4 (fun k e=>(HV3.out k e).1));clear hown4 hg4 hat4))
    go_roundw
    case rel=>exact ⟨k+1,by omega,by go_num,HBG.out,qL (own_at HO4.out (by rw [HTK.out];simp [Ycy]))⟩
    case measure=>simp [intOf];omega
   ·have HVX:=qL hvx
    simp only at x1 x2 x3
    clear hvx
    go_wp2_with fail
    refine (zff _ _ HVX.out).mono ?_
    rintro e w2 ⟨rfl,hb2⟩
    have HB2:=qL (btr (zae wr _) hb2)
    have c0:w2.cell? ⟨wr.heap.size,0,none⟩=some (.int .i64 1):=qM hb2 qH
    have c1:w2.cell? ⟨wr.heap.size,1,none⟩=some (.int .i64 1):=qM hb2 qH
    have c2:w2.cell? ⟨wr.heap.size,2,none⟩=some (.string ⟨#[]⟩):=qM hb2 qH
    have HSZ:Hid (w.heap.size<=(w2.alloc (.cells #[.int .u8 1] 5)).heap.size):=qL (qR HBW.out.size (qR HB2.out.size (zae w2 _).size))
    have HLT:Hid (wr.heap.size<w2.heap.size):=qL (qX _ _ c0)
    have HOA:Hid (ownD kByte (w2.alloc (.cells #[.int .u8 1] 5)) w.heap.size u4 l.length l):=qL (HO.out.later (HB2.out.alloc HB2.out.size _))
    have HCL:Hid (∀ j u,(yaq (u8 1))[j]?=some u->(w2.alloc (.cells #[.int .u8 1] 5)).cell? ((⟨w2.heap.size,0,none⟩:Addr).add j)=some u):=qL (zb9 w2 1 qF)
    have hl1:l.length<1000000:=by omega
    have hl2:l.length+1<1000000:=by omega
    have hl3:l.length+1<1000:=by omega
    clear hb2
    have HK:Hid (1<256):=qL qF
    go_wp2_with (first |(at_builtin;refine zaq _ rfl _ _ rfl PE HOA.out ⟨_,0,none⟩ (u8 1) (u8 1) rfl rfl HCL.out rfl (fun p hp=>by cases hp) hl1 HSZ.out ?_;intro v3 w3 hown3 hg3 hat3;have HO3:=qL hown3;have HBF:=qL (zaf (btr HBW.out (HB2.out.alloc HB2.out.size (.cells #[.int .u8 1] 5))) hg3 (fun k e=>(HV0.out k e).1));have HV3:Hid (∀ j,v3.ownBlock=some j->w.heap.size<=j/\j<w3.heap.size):=qL hown3.lt;have hne3:some wr.heap.size≠v3.ownBlock:=ne3 hne hat3 HLT.out;have d0:=hg3.cell (qM (zae w2 (.cells #[.int .u8 1] 5)) c0) hne;have d1:=hg3.cell (qM (zae w2 (.cells #[.int .u8 1] 5)) c1) hne;have d2:=hg3.cell (qM (zae w2 (.cells #[.int .u8 1] 5)) c2) hne;clear hown3 hg3 hat3 c0 c1 c2)|(at_builtin;refine zaq _ rfl _ _ rfl PE (HO3.out.later (zae _ _)) ⟨_,0,none⟩ (u8 1) (u8 1) rfl rfl (zb9 w3 1 HK.out) rfl (fun p hp=>by cases hp) hl2 (qR HBF.out.size (zae w3 _).size) ?_;intro v4 w4 hown4 hg4 hat4;have HO4:=qL hown4;have HBG:=qL (zaf (btr HBF.out (zae w3 (.cells #[.int .u8 1] 5))) hg4 (fun k e=>(HV3.out k e).1));clear hown4 hg4 hat4))
    go_roundw
    case rel=>exact ⟨k+1,by omega,by go_num,HBG.out,qL (own_at HO4.out (by rw [HTK.out];simp [Ycy]))⟩
    case measure=>simp [intOf];omega
   ·have HVX:=qL hvx
    simp only at x1 x2 x3
    clear hvx
    go_wp2_with fail
    refine (zff _ _ HVX.out).mono ?_
    rintro e w2 ⟨rfl,hb2⟩
    have HB2:=qL (btr (zae wr _) hb2)
    have c0:w2.cell? ⟨wr.heap.size,0,none⟩=some (.int .i64 2):=qM hb2 qH
    have c1:w2.cell? ⟨wr.heap.size,1,none⟩=some (.int .i64 m):=qM hb2 qH
    have c2:w2.cell? ⟨wr.heap.size,2,none⟩=some (.string ⟨#[]⟩):=qM hb2 qH
    have HSZ:Hid (w.heap.size<=(w2.alloc (.cells #[.int .u8 2] 5)).heap.size):=qL (qR HBW.out.size (qR HB2.out.size (zae w2 _).size))
    have HLT:Hid (wr.heap.size<w2.heap.size):=qL (qX _ _ c0)
    have HOA:Hid (ownD kByte (w2.alloc (.cells #[.int .u8 2] 5)) w.heap.size u4 l.length l):=qL (HO.out.later (HB2.out.alloc HB2.out.size _))
    have HCL:Hid (∀ j u,(yaq (u8 2))[j]?=some u->(w2.alloc (.cells #[.int .u8 2] 5)).cell? ((⟨w2.heap.size,0,none⟩:Addr).add j)=some u):=qL (zb9 w2 2 qF)
    have hl1:l.length<1000000:=by omega
    have hl2:l.length+1<1000000:=by omega
    have hl3:l.length+1<1000:=by omega
    clear hb2
    have hl4:(l++ [u8 0]).length<1000:=by simp;omega
    have hl4:l.length+1<1000:=by omega
    have HM0:Hid (0<=m+1073741824):=qL qF
    have HM1:Hid (m+1073741824<=4294967295):=qL qF
    have m2:IntKind.i64.wrap (m+1073741824)=m+1073741824:=by rw [IntKind.wrap_i64];omega
    go_wp2_with (first |(at_builtin;refine zaq _ rfl _ _ rfl PE HOA.out ⟨_,0,none⟩ (u8 2) (u8 2) rfl rfl HCL.out rfl (fun p hp=>by cases hp) hl1 HSZ.out ?_;intro v3 w3 hown3 hg3 hat3;have HO3:=qL hown3;have HBF:=qL (zaf (btr HBW.out (HB2.out.alloc HB2.out.size (.cells #[.int .u8 2] 5))) hg3 (fun k e=>(HV0.out k e).1));have HV3:Hid (∀ j,v3.ownBlock=some j->w.heap.size<=j/\j<w3.heap.size):=qL hown3.lt;have hne3:some wr.heap.size≠v3.ownBlock:=ne3 hne hat3 HLT.out;have d0:=hg3.cell (qM (zae w2 (.cells #[.int .u8 2] 5)) c0) hne;have d1:=hg3.cell (qM (zae w2 (.cells #[.int .u8 2] 5)) c1) hne;have d2:=hg3.cell (qM (zae w2 (.cells #[.int .u8 2] 5)) c2) hne;clear hown3 hg3 hat3 c0 c1 c2)|(go_at_call 284;refine (Ycl w.heap.size v3 _ _ (m+1073741824) w3 HO3.out hl4 HBF.out.size HM0.out HM1.out).mono ?_;rintro e w4 ⟨v4,rfl,hown4,hg4⟩;have HO4:=qL hown4;have HBG:=qL (zaf HBF.out hg4 (fun k e=>(HV3.out k e).1));clear hown4 hg4))
    go_roundw
    case rel=>exact ⟨k+1,by omega,by go_num,HBG.out,qL (own_at HO4.out (by rw [HTK.out];simp [Yeh]))⟩
    case measure=>simp [intOf];omega
   ·have HVX:=qL hvx
    simp only at x1 x2 x3
    clear hvx
    go_wp2_with fail
    refine (zff _ _ HVX.out).mono ?_
    rintro e w2 ⟨rfl,hb2⟩
    have HB2:=qL (btr (zae wr _) hb2)
    have c0:w2.cell? ⟨wr.heap.size,0,none⟩=some (.int .i64 3):=qM hb2 qH
    have c1:w2.cell? ⟨wr.heap.size,1,none⟩=some (.int .i64 0):=qM hb2 qH
    have c2:w2.cell? ⟨wr.heap.size,2,none⟩=some (.string s):=qM hb2 qH
    have HSZ:Hid (w.heap.size<=(w2.alloc (.cells #[.int .u8 3] 5)).heap.size):=qL (qR HBW.out.size (qR HB2.out.size (zae w2 _).size))
    have HLT:Hid (wr.heap.size<w2.heap.size):=qL (qX _ _ c0)
    have HOA:Hid (ownD kByte (w2.alloc (.cells #[.int .u8 3] 5)) w.heap.size u4 l.length l):=qL (HO.out.later (HB2.out.alloc HB2.out.size _))
    have HCL:Hid (∀ j u,(yaq (u8 3))[j]?=some u->(w2.alloc (.cells #[.int .u8 3] 5)).cell? ((⟨w2.heap.size,0,none⟩:Addr).add j)=some u):=qL (zb9 w2 3 qF)
    have hl1:l.length<1000000:=by omega
    have hl2:l.length+1<1000000:=by omega
    have hl3:l.length+1<1000:=by omega
    clear hb2
    have e64:(s.size:Int) % 256=s.size:=by omega
    have hz3:l.length+1+1+s.size<=maxLen:=by unfold maxLen;omega
    have hz4:l.length+1+1+s.size<=140737488355328:=by omega
    have HK:Hid (s.size<256):=qL qF
    go_wp2_with (first |(at_builtin;refine zaq _ rfl _ _ rfl PE HOA.out ⟨_,0,none⟩ (u8 3) (u8 3) rfl rfl HCL.out rfl (fun p hp=>by cases hp) hl1 HSZ.out ?_;intro v3 w3 hown3 hg3 hat3;have HO3:=qL hown3;have HBF:=qL (zaf (btr HBW.out (HB2.out.alloc HB2.out.size (.cells #[.int .u8 3] 5))) hg3 (fun k e=>(HV0.out k e).1));have HV3:Hid (∀ j,v3.ownBlock=some j->w.heap.size<=j/\j<w3.heap.size):=qL hown3.lt;have hne3:some wr.heap.size≠v3.ownBlock:=ne3 hne hat3 HLT.out;have d0:=hg3.cell (qM (zae w2 (.cells #[.int .u8 3] 5)) c0) hne;have d1:=hg3.cell (qM (zae w2 (.cells #[.int .u8 3] 5)) c1) hne;have d2:=hg3.cell (qM (zae w2 (.cells #[.int .u8 3] 5)) c2) hne;clear hown3 hg3 hat3 c0 c1 c2)|(at_builtin;refine zaq _ rfl _ _ rfl PE (HO3.out.later (zae _ _)) ⟨_,0,none⟩ (u8 s.size) (u8 s.size) rfl rfl (zb9 w3 s.size HK.out) rfl (fun p hp=>by cases hp) hl2 (qR HBF.out.size (zae w3 _).size) ?_;intro v4 w4 hown4 hg4 hat4;have HO4:=qL hown4;have HBG:=qL (zaf (btr HBF.out (zae w3 (.cells #[.int .u8 (s.size:Int)] 5))) hg4 (fun k e=>(HV3.out k e).1));have f2:=hg4.cell (qM (zae w3 (.cells #[.int .u8 (s.size:Int)] 5)) d2) hne3;have HV4:Hid (∀ j,v4.ownBlock=some j->w.heap.size<=j/\j<w4.heap.size):=qL hown4.lt;have HOR:Hid (w4.ownsRow w.heap.size 5 1 v4 (l.length+1+1) (flat yaq (l++ [u8 3]++ [u8 s.size]))):=qL ((zgf (K:=kByte) rfl rfl).1 hown4);clear hown4 hg4 hat4)|(at_builtin;refine Lib.wpList_append_own_string _ rfl _ _ 185 9 rfl w.heap.size 5 i0 Tryz.underlying185 Tryz.underlying9 hi0 hz0 hz1 hz2 _ _ _ rfl HOR.out s rfl hz3 hz4 HBG.out.size ?_;intro v5 w5 hown5 hg5 hnil;have HO5:=qL (yo7 hown5);have HBH:=qL (zaf HBG.out hg5 (fun k e=>(HV4.out k e).1));clear hown5 hg5 hnil))
    go_roundw
    case rel=>exact ⟨k+1,by omega,by go_num,HBH.out,qL (own_at HO5.out (by rw [HTK.out];simp [Yei]))⟩
    case measure=>simp [intOf];omega
   ·have HVX:=qL hvx
    simp only at x1 x2 x3
    clear hvx
    go_wp2_with fail
    refine (zff _ _ HVX.out).mono ?_
    rintro e w2 ⟨rfl,hb2⟩
    have HB2:=qL (btr (zae wr _) hb2)
    have c0:w2.cell? ⟨wr.heap.size,0,none⟩=some (.int .i64 4):=qM hb2 qH
    have c1:w2.cell? ⟨wr.heap.size,1,none⟩=some (.int .i64 m):=qM hb2 qH
    have c2:w2.cell? ⟨wr.heap.size,2,none⟩=some (.string ⟨#[]⟩):=qM hb2 qH
    have HSZ:Hid (w.heap.size<=(w2.alloc (.cells #[.int .u8 4] 5)).heap.size):=qL (qR HBW.out.size (qR HB2.out.size (zae w2 _).size))
    have HLT:Hid (wr.heap.size<w2.heap.size):=qL (qX _ _ c0)
    have HOA:Hid (ownD kByte (w2.alloc (.cells #[.int .u8 4] 5)) w.heap.size u4 l.length l):=qL (HO.out.later (HB2.out.alloc HB2.out.size _))
    have HCL:Hid (∀ j u,(yaq (u8 4))[j]?=some u->(w2.alloc (.cells #[.int .u8 4] 5)).cell? ((⟨w2.heap.size,0,none⟩:Addr).add j)=some u):=qL (zb9 w2 4 qF)
    have hl1:l.length<1000000:=by omega
    have hl2:l.length+1<1000000:=by omega
    have hl3:l.length+1<1000:=by omega
    clear hb2
    have hl4:(l++ [u8 0]).length<1000:=by simp;omega
    have hl4:l.length+1<1000:=by omega
    have HM0:Hid (0<=m):=qL qF
    have HM1:Hid (m<=4294967295):=qL qF
    go_wp2_with (first |(at_builtin;refine zaq _ rfl _ _ rfl PE HOA.out ⟨_,0,none⟩ (u8 4) (u8 4) rfl rfl HCL.out rfl (fun p hp=>by cases hp) hl1 HSZ.out ?_;intro v3 w3 hown3 hg3 hat3;have HO3:=qL hown3;have HBF:=qL (zaf (btr HBW.out (HB2.out.alloc HB2.out.size (.cells #[.int .u8 4] 5))) hg3 (fun k e=>(HV0.out k e).1));have HV3:Hid (∀ j,v3.ownBlock=some j->w.heap.size<=j/\j<w3.heap.size):=qL hown3.lt;have hne3:some wr.heap.size≠v3.ownBlock:=ne3 hne hat3 HLT.out;have d0:=hg3.cell (qM (zae w2 (.cells #[.int .u8 4] 5)) c0) hne;have d1:=hg3.cell (qM (zae w2 (.cells #[.int .u8 4] 5)) c1) hne;have d2:=hg3.cell (qM (zae w2 (.cells #[.int .u8 4] 5)) c2) hne;clear hown3 hg3 hat3 c0 c1 c2)|(go_at_call 284;refine (Ycl w.heap.size v3 _ _ m w3 HO3.out hl4 HBF.out.size HM0.out HM1.out).mono ?_;rintro e w4 ⟨v4,rfl,hown4,hg4⟩;have HO4:=qL hown4;have HBG:=qL (zaf HBF.out hg4 (fun k e=>(HV3.out k e).1));clear hown4 hg4))
    go_roundw
    case rel=>exact ⟨k+1,by omega,by go_num,HBG.out,qL (own_at HO4.out (by rw [HTK.out];simp [Yej]))⟩
    case measure=>simp [intOf];omega
  ·obtain rfl:k=rN:=by omega
   obtain ⟨vA,vc,hv4,hvc,hrd,hfr⟩:=HO.out.rd
   subst hv4
   have HRD:Hid (rD kByte wr vA (u8 r.length::(r.take k).flatMap ybw).length (ybn r)):=qL (by
    have e:r.take k=r:=List.take_of_length_le (by have:=HL.out;omega)
    rw [e] at hrd ⊢
    exact hrd)
   clear hrd hfr
   go_wp2
   go_ret2
   exact ⟨_,_,_,rfl,HRD.out,hbw⟩
theorem ymi (rA:Option Addr)(rN rC:Nat)(r:List Val)(w:World)(hr:rVal w rA rN r)(h12:rN<=12)(hv: ∀ v∈r,yab v=true):Calls Tryz.prog 211 #[.slice rA rN rC] w fun e w'=>e= .returned (.string (yav r))/\Below w.heap.size w w':=by
 have H:=qL (yh3 rA rN rC r w hr h12 hv)
 clear hr hv
 go_enter Tryz.func211,Tryz.ntmps211
 go_wp2_with fail
 refine H.out.mono ?_
 rintro e w' ⟨A,n,c,rfl,hrd,hb⟩
 have hl:=hrd.len
 have hn:0<n:=by rw [<-hl];simp [ybn]
 obtain ⟨b,o,rfl,hc⟩:=hrd.opn hn
 have hconv: ∀ W,W=w'->(convert 185 9 (.slice (some ⟨b,o,none⟩) n c)).run Tryz.prog W= .ok (.string (yav r)) W:=fun W e=>by
  subst e
  have:=run_convert_bytes_back (P:=Tryz.prog) W 185 9 5 ⟨b,o,none⟩ c (ybn r) Tryz.underlying185 Tryz.underlying5 Tryz.underlying9 (fun j hj=>by
   obtain ⟨a,ha,h1⟩:=hc j _ (List.getElem?_eq_getElem hj)
   have:=h1 0 (.int .u8 (a.toNat:Int)) (by show 0<1;omega) rfl
   have e:a=(ybn r)[j]:=ha
   rw [<-e,zaw]
   rw [show o+j*kByte.C+0=o+j from by show o+j*1+0=o+j;omega] at this
   exact this)
  rw [hl] at this
  exact this
 have hconv:=hconv w' rfl
 have HB:=qL hb
 clear hrd hc hb H
 go_wp2
 go_ret
 exact ⟨rfl,HB.out⟩
theorem zfk (x y:Val)(w:World):Calls Tryz.prog 71 #[.agg #[.int .i64 x.k, .int .i64 x.m, .string x.s], .agg #[.int .i64 y.k, .int .i64 y.m, .string y.s]] w
 fun e w'=>e= .returned (.int .i64 (ya0 x y))/\Below w.heap.size w w':=yjj x.k x.m x.s y.k y.m y.s w
theorem cmfE (A:Option Addr)(n c:Nat)(A':Option Addr)(n' c':Nat)(a b:List Val)(w:World)(ha:rVal w A n a)(hb:rVal w A' n' b)(hn:n<=100000)(hn':n'<=100000):
 Calls Tryz.prog 70 #[.slice A n c, .slice A' n' c', .func (.func 71) #[] #[]] w fun e w'=>e= .returned (.int .i64 (yag a b))/\Below w.heap.size w w':=by
 have HA:=qL ha
 have HB:=qL hb
 have LA:=qL ha.len
 have LB:=qL hb.len
 clear ha hb
 go_enter Tryz.func70,Tryz.ntmps70
 go_wp2
 go_loopw [13] (fun i wr=> ∃ k:Nat,k<=n/\k<=n'/\i= .int .i64 k/\Below w.heap.size w wr/\Hid (SameTo a b k)) (fun i _=>n - (intOf i).toNat)
 case atStart=>exact ⟨0,by omega,by omega,rfl,za0 _,qL fun j _ _ hj=>absurd hj qF⟩
 case round=>
  obtain ⟨k,hk,hk',rfl,hbw,HS⟩:=hrel
  have HBW:=qL hbw
  by_cases h1:k<n
  ·obtain ⟨b1,o1,rfl,hc1⟩:=(HA.out.later hbw).opn qF
   obtain ⟨x,hx⟩:=zah (l:=a) (k:=k) (by have:=LA.out;omega)
   obtain ⟨x1,x2,x3⟩:=hc1 k x hx
   have HX:=qL hx
   clear hc1 hx
   by_cases h2:k<n'
   ·obtain ⟨b2,o2,rfl,hc2⟩:=(HB.out.later hbw).opn qF
    obtain ⟨y,hy⟩:=zah (l:=b) (k:=k) (by have:=LB.out;omega)
    obtain ⟨y1,y2,y3⟩:=hc2 k y hy
    have HY:=qL hy
    have y1':=qM (zae wr (.cells #[.int .i64 x.k, .int .i64 x.m, .string x.s] 46)) y1
    have y2':=qM (zae wr (.cells #[.int .i64 x.k, .int .i64 x.m, .string x.s] 46)) y2
    have y3':=qM (zae wr (.cells #[.int .i64 x.k, .int .i64 x.m, .string x.s] 46)) y3
    clear hc2 hy hbw
    cases hz:(ya0 x y !=0)
    ·have HZ:Hid (ya0 x y=0):=qL (by simpa using hz)
     go_wp2_with fail
     refine (zfk x y _).mono ?_
     rintro e w2 ⟨rfl,hb2⟩
     have HB2:=qL (btr HBW.out (btr ((zae wr _).alloc qH _) hb2))
     clear hb2
     go_wp2
     go_roundw
     case rel=>exact ⟨k+1,by omega,by omega,by go_num,HB2.out,qL (HS.out.succ HX.out HY.out HZ.out)⟩
     case measure=>simp [intOf];omega
    ·have HZ:Hid (ya0 x y≠0):=qL (by simpa using hz)
     go_wp2_with fail
     refine (zfk x y _).mono ?_
     rintro e w2 ⟨rfl,hb2⟩
     have HB2:=qL (btr HBW.out (btr ((zae wr _).alloc qH _) hb2))
     clear hb2
     go_wp2
     go_ret
     exact ⟨zak (zkd HS.out HX.out HY.out HZ.out).symm,HB2.out⟩
   ·have HE:Hid (Lib.compareInt n n'=yag a b):=qL (by
     have e1:=LA.out
     have e2:=LB.out
     rw [zd6 (fun j x y hj=>HS.out j x y qF),e1,e2])
    clear hbw
    go_wp2
    go_ret
    exact ⟨zak (by rw [<-HE.out];unfold Lib.compareInt;rw [if_neg qF,if_pos qF]),btr HBW.out (zae _ _)⟩
  ·have HE:Hid (Lib.compareInt n n'=yag a b):=qL (by
    have e1:=LA.out
    have e2:=LB.out
    rw [zd6 (fun j x y hj=>HS.out j x y qF),e1,e2])
   by_cases h3:n<n'
   ·go_wp2
    go_ret
    exact ⟨zak (by rw [<-HE.out];unfold Lib.compareInt;rw [if_pos qF]),hbw⟩
   ·go_wp2
    go_ret
    exact ⟨zak (by rw [<-HE.out];unfold Lib.compareInt;rw [if_neg qF,if_neg qF]),hbw⟩
theorem cmrE (A:Option Addr)(n c:Nat)(A':Option Addr)(n' c':Nat)(a b:List Val)(w:World)(ha:rVal w A n a)(hb:rVal w A' n' b)(hn:a.length<=100000)(hn':b.length<=100000):
 Calls Tryz.prog 42 #[.slice A n c, .slice A' n' c'] w fun e w'=>e= .returned (.int .i64 (yag a b))/\Below w.heap.size w w':=by
 have H:=qL (cmfE A n c A' n' c' a b w ha hb (by have:=ha.len;omega) (by have:=hb.len;omega))
 clear ha hb
 go_enter Tryz.func42,Tryz.ntmps42
 go_wp2_with (go_at_call 70;refine (H.out).mono ?_;rintro e w' ⟨rfl,hb⟩)
 go_ret
 exact ⟨zak rfl,hb⟩
def BelD (w w':World):Prop:=Below w.heap.size w w'/\w.drawn<=w'.drawn
theorem zki {w w':World}{o:Obj}(h:w.drawn<=w'.drawn):w.drawn<=(w'.alloc o).drawn:=h
theorem zkj {w:World}{o o':Obj}:w.drawn<=((w.alloc o).alloc o').drew.drawn:=Nat.le_succ _
theorem BelD.refl (w:World):BelD w w:=⟨za0 w,qV _⟩
theorem BelD.trans {a b c:World}(h:BelD a b)(k:BelD b c):BelD a c:=⟨btr h.1 k.1,qR h.2 k.2⟩
theorem BelD.alloc (w:World)(o:Obj):BelD w (w.alloc o):=⟨zae w o,qV _⟩
theorem BelD.grow {w w':World}(h:BelD w w'): ∃ q os,w'=Go.Sort.grow (w.drewN q) os:=by
 obtain ⟨⟨h1,h2,h3,h4,h5⟩,h6⟩:=h
 refine ⟨w'.drawn - w.drawn,w'.heap.extract w.heap.size w'.heap.size,?_⟩
 obtain ⟨hp,tp,dr,os,out⟩:=w
 obtain ⟨hp',tp',dr',os',out'⟩:=w'
 simp only at h1 h2 h3 h4 h5 h6
 subst h1 h2 h3
 unfold Go.Sort.grow World.drewN
 simp only [World.mk.injEq,and_true,true_and]
 refine ⟨?_,by omega⟩
 apply Array.ext_getElem?
 intro i
 rw [Array.getElem?_append]
 split
 ·exact h5 i ‹_›
 ·rw [Array.getElem?_extract]
  split
  ·congr 1;omega
  ·rw [Array.getElem?_eq_none];omega
theorem yji (k1 m1:Int)(s1:ByteArray)(k2 m2:Int)(s2:ByteArray)(w:World):
 Calls Tryz.prog 71 #[.agg #[.int .i64 k1, .int .i64 m1, .string s1], .agg #[.int .i64 k2, .int .i64 m2, .string s2]] w
  fun e w'=>e= .returned (.int .i64 (ya0 ⟨k1,m1,s1⟩ ⟨k2,m2,s2⟩))/\BelD w w':=by
 go_enter Tryz.func71,Tryz.ntmps71
 go_wp2_with fail
 go_region_held3 (fun w'=>Below w.heap.size w w'
  /\w'.cell? ⟨w.heap.size,0,none⟩=some (.int .i64 k1)/\w'.cell? ⟨w.heap.size,1,none⟩=some (.int .i64 m1)/\w'.cell? ⟨w.heap.size,2,none⟩=some (.string s1)
  /\w'.cell? ⟨w.heap.size+1,0,none⟩=some (.int .i64 k2)/\w'.cell? ⟨w.heap.size+1,1,none⟩=some (.int .i64 m2)/\w'.cell? ⟨w.heap.size+1,2,none⟩=some (.string s2)/\w.drawn<=w'.drawn)
  (first
   |(go_keep;done)
   |(go_split_ands;refine ⟨?_,?_,?_,?_,?_,?_,?_,?_⟩<;>(first |exact zki qI|exact zkj|(go_keep;done)|exact qM qI qI|exact yrd qI (qV _) qI|(repeat (first |exact Below.refl _ _|assumption|refine Below.drew ?_|refine Below.alloc ?_ (by first |(simp;done)|(simp;omega)|exact Below.size qI) _)))))
  (first
   |(go_at_call 98;refine (cmpE' _ _ _).mono ?_;rintro e w' ⟨rfl,rfl⟩)
   |(go_at_call 99;refine (strE' _ _ _).mono ?_;rintro e w' ⟨rfl,rfl⟩)
   |(go_at_call 97;go_split_ands;refine (or3E _ _ _ (Lib.compareInt k1 k2) (Lib.compareInt m1 m2) (Lib.compareBytes s1.toList s2.toList) _ ?_ ?_ ?_).mono ?_<;>(first |exact zaa qH qH|rintro e w' ⟨rfl,rfl⟩)))
 go_split_ands
 have HB:Hid (BelD w _):=qL ⟨by assumption,by assumption⟩
 go_wp2
 go_ret
 exact ⟨zak (zpt ⟨k1,m1,s1⟩ ⟨k2,m2,s2⟩),HB.out⟩
theorem zl0 (x y:Val)(w:World):Calls Tryz.prog 71 #[.agg #[.int .i64 x.k, .int .i64 x.m, .string x.s], .agg #[.int .i64 y.k, .int .i64 y.m, .string y.s]] w
 fun e w'=>e= .returned (.int .i64 (ya0 x y))/\BelD w w':=yji x.k x.m x.s y.k y.m y.s w
theorem cmfD (A:Option Addr)(n c:Nat)(A':Option Addr)(n' c':Nat)(a b:List Val)(w:World)(ha:rVal w A n a)(hb:rVal w A' n' b)(hn:n<=100000)(hn':n'<=100000):
 Calls Tryz.prog 70 #[.slice A n c, .slice A' n' c', .func (.func 71) #[] #[]] w fun e w'=>e= .returned (.int .i64 (yag a b))/\BelD w w':=by
 have HA:=qL ha
 have HB:=qL hb
 have LA:=qL ha.len
 have LB:=qL hb.len
 clear ha hb
 go_enter Tryz.func70,Tryz.ntmps70
 go_wp2
 go_loopw [13] (fun i wr=> ∃ k:Nat,k<=n/\k<=n'/\i= .int .i64 k/\BelD w wr/\Hid (SameTo a b k)) (fun i _=>n - (intOf i).toNat)
 case atStart=>exact ⟨0,by omega,by omega,rfl,BelD.refl _,qL fun j _ _ hj=>absurd hj qF⟩
 case round=>
  obtain ⟨k,hk,hk',rfl,hbw,HS⟩:=hrel
  have HBW:=qL hbw
  by_cases h1:k<n
  ·obtain ⟨b1,o1,rfl,hc1⟩:=(HA.out.later hbw.1).opn qF
   obtain ⟨x,hx⟩:=zah (l:=a) (k:=k) (by have:=LA.out;omega)
   obtain ⟨x1,x2,x3⟩:=hc1 k x hx
   have HX:=qL hx
   clear hc1 hx
   by_cases h2:k<n'
   ·obtain ⟨b2,o2,rfl,hc2⟩:=(HB.out.later hbw.1).opn qF
    obtain ⟨y,hy⟩:=zah (l:=b) (k:=k) (by have:=LB.out;omega)
    obtain ⟨y1,y2,y3⟩:=hc2 k y hy
    have HY:=qL hy
    have y1':=qM (zae wr (.cells #[.int .i64 x.k, .int .i64 x.m, .string x.s] 46)) y1
    have y2':=qM (zae wr (.cells #[.int .i64 x.k, .int .i64 x.m, .string x.s] 46)) y2
    have y3':=qM (zae wr (.cells #[.int .i64 x.k, .int .i64 x.m, .string x.s] 46)) y3
    clear hc2 hy hbw
    cases hz:(ya0 x y !=0)
    ·have HZ:Hid (ya0 x y=0):=qL (by simpa using hz)
     go_wp2_with fail
     refine (zl0 x y _).mono ?_
     rintro e w2 ⟨rfl,hb2⟩
     have HB2:=qL (HBW.out.trans (((BelD.alloc wr _).trans (BelD.alloc _ _)).trans hb2))
     clear hb2
     go_wp2
     go_roundw
     case rel=>exact ⟨k+1,by omega,by omega,by go_num,HB2.out,qL (HS.out.succ HX.out HY.out HZ.out)⟩
     case measure=>simp [intOf];omega
    ·have HZ:Hid (ya0 x y≠0):=qL (by simpa using hz)
     go_wp2_with fail
     refine (zl0 x y _).mono ?_
     rintro e w2 ⟨rfl,hb2⟩
     have HB2:=qL (HBW.out.trans (((BelD.alloc wr _).trans (BelD.alloc _ _)).trans hb2))
     clear hb2
     go_wp2
     go_ret
     exact ⟨zak (zkd HS.out HX.out HY.out HZ.out).symm,HB2.out⟩
   ·have HE:Hid (Lib.compareInt n n'=yag a b):=qL (by
     have e1:=LA.out
     have e2:=LB.out
     rw [zd6 (fun j x y hj=>HS.out j x y qF),e1,e2])
    clear hbw
    go_wp2
    go_ret
    exact ⟨zak (by rw [<-HE.out];unfold Lib.compareInt;rw [if_neg qF,if_pos qF]),HBW.out.trans (BelD.alloc _ _)⟩
  ·have HE:Hid (Lib.compareInt n n'=yag a b):=qL (by
    have e1:=LA.out
    have e2:=LB.out
    rw [zd6 (fun j x y hj=>HS.out j x y qF),e1,e2])
   by_cases h3:n<n'
   ·go_wp2
    go_ret
    exact ⟨zak (by rw [<-HE.out];unfold Lib.compareInt;rw [if_pos qF]),hbw⟩
   ·go_wp2
    go_ret
    exact ⟨zak (by rw [<-HE.out];unfold Lib.compareInt;rw [if_neg qF,if_neg qF]),hbw⟩
theorem Ycx (A:Option Addr)(n c:Nat)(A':Option Addr)(n' c':Nat)(a b:List Val)(w:World)(ha:rVal w A n a)(hb:rVal w A' n' b)(hn:a.length<=100000)(hn':b.length<=100000):
 Calls Tryz.prog 42 #[.slice A n c, .slice A' n' c'] w fun e w'=>e= .returned (.int .i64 (yag a b))/\BelD w w':=by
 have H:=qL (cmfD A n c A' n' c' a b w ha hb (by have:=ha.len;omega) (by have:=hb.len;omega))
 clear ha hb
 go_enter Tryz.func42,Tryz.ntmps42
 go_wp2_with (go_at_call 70;refine (H.out).mono ?_;rintro e w' ⟨rfl,hb⟩)
 go_ret
 exact ⟨zak rfl,hb⟩
theorem yrj (x y:Ent)(a b:List Val)(w:World)(ha:rVal w x.rA x.rN a)(hb:rVal w y.rA y.rN b)(h1:a.length<=100000)(h2:b.length<=100000):
 Calls Tryz.prog 253 #[.agg #[.slice x.rA x.rN x.rC, .int .i64 x.c], .agg #[.slice y.rA y.rN y.rC, .int .i64 y.c]] w fun e w'=>e= .returned (.int .i64 (yag a b))/\BelD w w':=by
 have H:=qL (Ycx x.rA x.rN x.rC y.rA y.rN y.rC a b ((w.alloc (.cells #[.slice x.rA x.rN x.rC, .int .i64 x.c] 65)).alloc (.cells #[.slice y.rA y.rN y.rC, .int .i64 y.c] 65)) (ha.later (btr (zae _ _) (zae _ _))) (hb.later (btr (zae _ _) (zae _ _))) h1 h2)
 clear ha hb
 go_enter Tryz.func253,Tryz.ntmps253
 go_wp2_with fail
 refine H.out.mono ?_
 rintro e w' ⟨rfl,hb⟩
 have HB:=qL (((BelD.alloc w _).trans (BelD.alloc _ _)).trans hb)
 clear hb
 go_wp2
 go_ret
 exact ⟨zak rfl,HB.out⟩
end
section
open Go.BigFrame Go.Lib Go.RowKit Go.Shelf Go.Sort
def ygh :Go.Shelf.Ren:=⟨fun|6=>252|15=>283|14=>282|28=>320|29=>321|20=>312|21=>313|22=>314|23=>315|24=>316|25=>317|26=>318|27=>319|46=>332|47=>333|48=>334|49=>335|50=>336|57=>349|n=>n,fun|22=>29|24=>65|25=>257|3=>3|39=>32|0=>0|53=>317|55=>319|4=>4|46=>311|45=>310|50=>111|5=>5|9=>9|66=>327|70=>331|76=>345|77=>264|n=>n,fun|n=>n⟩
theorem zp9 :Go.Proofs.SlLaysF0.n6 Tryz.prog ygh:={
 mixed:=by kernel_rfl
 f6:=⟨Tryz.f252.name,by decide,Tryz.func252.trans (congrArg some qG)⟩
 f14:=⟨Tryz.f282.name,by decide,Tryz.func282.trans (congrArg some qG)⟩
 f15:=Tryz.func283.trans (congrArg some qG)
 f20:=⟨Tryz.f312.name,by decide,Tryz.func312.trans (congrArg some qG)⟩
 f21:=⟨Tryz.f313.name,by decide,Tryz.func313.trans (congrArg some qG)⟩
 f22:=⟨Tryz.f314.name,by decide,Tryz.func314.trans (congrArg some qG)⟩
 f23:=⟨Tryz.f315.name,by decide,Tryz.func315.trans (congrArg some qG)⟩
 f24:=⟨Tryz.f316.name,by decide,Tryz.func316.trans (congrArg some qG)⟩
 f25:=⟨Tryz.f317.name,by decide,Tryz.func317.trans (congrArg some qG)⟩
 f26:=⟨Tryz.f318.name,by decide,Tryz.func318.trans (congrArg some qG)⟩
 f27:=⟨Tryz.f319.name,by decide,Tryz.func319.trans (congrArg some qG)⟩
 f28:=Tryz.func320.trans (congrArg some qG)
 f29:=Tryz.func321.trans (congrArg some qG)
 f46:=⟨Tryz.f332.name,by decide,Tryz.func332.trans (congrArg some qG)⟩
 f47:=Tryz.func333.trans (congrArg some qG)
 f48:=Tryz.func334.trans (congrArg some qG)
 f49:=⟨Tryz.f335.name,by decide,Tryz.func335.trans (congrArg some qG)⟩
 f50:=⟨Tryz.f336.name,by decide,Tryz.func336.trans (congrArg some qG)⟩
 f57:=⟨Tryz.f349.name,by decide,Tryz.func349.trans (congrArg some qG)⟩
 t0:=Tryz.underlying0
 a0:=Tryz.isAgg0
 z0:=Tryz.sizeOf0
 v0:=Tryz.zeroValue0
 t3:=Tryz.underlying3
 a3:=Tryz.isAgg3
 z3:=Tryz.sizeOf3
 v3:=Tryz.zeroValue3
 t4:=Tryz.underlying4
 a4:=Tryz.isAgg4
 z4:=Tryz.sizeOf4
 v4:=Tryz.zeroValue4
 t5:=Tryz.underlying5
 a5:=Tryz.isAgg5
 z5:=Tryz.sizeOf5
 v5:=Tryz.zeroValue5
 t9:=Tryz.underlying9
 a9:=Tryz.isAgg9
 z9:=Tryz.sizeOf9
 v9:=Tryz.zeroValue9
 t22:=Tryz.underlying29
 a22:=Tryz.isAgg29
 z22:=Tryz.sizeOf29
 v22:=Tryz.zeroValue29
 t25:=Tryz.underlying257
 a25:=Tryz.isAgg257
 z25:=Tryz.sizeOf257
 v25:=Tryz.zeroValue257
 t39:=Tryz.underlying32
 a39:=Tryz.isAgg32
 z39:=Tryz.sizeOf32
 v39:=Tryz.zeroValue32
 t45:=Tryz.underlying310
 a45:=Tryz.isAgg310
 z45:=Tryz.sizeOf310
 v45:=Tryz.zeroValue310
 t46:=Tryz.underlying311
 a46:=Tryz.isAgg311
 z46:=Tryz.sizeOf311
 v46:=Tryz.zeroValue311
 t50:=Tryz.underlying111
 a50:=Tryz.isAgg111
 z50:=Tryz.sizeOf111
 v50:=Tryz.zeroValue111
 t53:=Tryz.underlying317
 a53:=Tryz.isAgg317
 z53:=Tryz.sizeOf317
 v53:=Tryz.zeroValue317
 t55:=Tryz.underlying319
 a55:=Tryz.isAgg319
 z55:=Tryz.sizeOf319
 v55:=Tryz.zeroValue319
 t66:=Tryz.underlying327
 a66:=Tryz.isAgg327
 z66:=Tryz.sizeOf327
 v66:=Tryz.zeroValue327
 t70:=Tryz.underlying331
 a70:=Tryz.isAgg331
 z70:=Tryz.sizeOf331
 v70:=Tryz.zeroValue331
 t76:=Tryz.underlying345
 a76:=Tryz.isAgg345
 z76:=Tryz.sizeOf345
 v76:=Tryz.zeroValue345
 t77:=Tryz.underlying264
 a77:=Tryz.isAgg264
 z77:=Tryz.sizeOf264
 v77:=Tryz.zeroValue264}
section
variable {α:Type}[Inhabited α]
theorem zoz {w:World}{enc:α->List Value}{k g:Nat}(hk: ∀ x,(enc x).length=k)(h0:0<k){cs:Array Value}{t:Nat}(hg:w.heap[g]?=some (.cells cs t (0,0))){d:Array α}(h:cs.toList.take (d.size*k)=flat enc d.toList):HoldsK enc k w g 0 d:=by
 intro j hj
 rw [size_flatK] at hj
 have hlt:j / k<d.size:=Nat.div_lt_of_lt_mul (by rw [Nat.mul_comm];exact hj)
 have hd:d.toList[j / k]?=some d[j / k]!:=by
  rw [getElem!_pos d _ hlt]
  simp [hlt]
 have hm:j % k<k:=Nat.mod_lt _ h0
 have hf:=zbf hk hd (j % k) hm
 have e:j / k*k+j % k=j:=by rw [Nat.mul_comm];exact Nat.div_add_mod j k
 rw [e,<-h,List.getElem?_take,if_pos hj] at hf
 refine ⟨?_,by simp [World.frozen?,hg]⟩
 rw [get_flatK _ _ _ _ hj,Nat.zero_add]
 have e2:(enc d[j / k]!)[j % k]?=some (enc d[j / k]!)[j % k]!:=by
  rw [List.getElem!_eq_getElem?_getD]
  rw [List.getElem?_eq_getElem (by rw [hk];exact hm)]
  rfl
 show World.cell? w ⟨g,j,none⟩=_
 rw [World.cell?,hg]
 show cs[j]?=_
 rw [<-Array.getElem?_toList,hf,e2]
 rfl
end
theorem zk9 {α:Type}[Inhabited α](enc:α->List Value)(k:Nat)(w:World)(blk off m:Nat)(d:Array α)(os:Array Obj)(b:Nat)(hb:b≠blk)(hl:b<w.heap.size):(sortWorldK enc k w blk off m d os).heap[b]?=w.heap[b]?:=by
 unfold sortWorldK Go.Sort.grow putRowK putRow mapBlock Sort.ahead
 show ((w.heap.modify blk _)++os)[b]?=_
 rw [Array.getElem?_append_left (by simpa using hl),Array.getElem?_modify,if_neg (Ne.symm hb)]
theorem zgr {α:Type}[Inhabited α](enc:α->List Value)(k:Nat)(w:World)(blk off m:Nat)(d:Array α)(os:Array Obj):w.grownBy (sortWorldK enc k w blk off m d os) (some blk):=
 ⟨rfl,rfl,rfl,by unfold sortWorldK Go.Sort.grow putRowK putRow mapBlock Sort.ahead;simp,fun b hl hb=>zk9 enc k w blk off m d os b (fun e=>hb (by rw [e])) hl⟩
theorem yk2 {α:Type}[Inhabited α](enc:α->List Value)(k:Nat)(hk: ∀ x,(enc x).length=k)(h0:0<k)(w:World)(blk m:Nat)(d:Array α)(os:Array Obj){cs:Array Value}{t:Nat}(hg:w.heap[blk]?=some (.cells cs t (0,0)))(hsz:d.size*k<=cs.size):
 ∃ cs',(sortWorldK enc k w blk 0 m d os).heap[blk]?=some (.cells cs' t (0,0))/\cs'.size=cs.size/\cs'.toList.take (d.size*k)=flat enc d.toList:=by
 have hl:=(Array.getElem?_eq_some_iff.1 hg).1
 refine ⟨putCells id 0 (flatK enc k d) cs,?_,by simp [putCells],?_⟩
 ·unfold sortWorldK Go.Sort.grow putRowK putRow mapBlock Sort.ahead
  show ((w.heap.modify blk _)++os)[blk]?=_
  rw [Array.getElem?_append_left (by simpa using hl),Array.getElem?_modify,if_pos rfl,hg]
  rfl
 ·apply List.ext_getElem?
  intro j
  rw [List.getElem?_take]
  split
  ·rename_i hj
   rw [Array.getElem?_toList,putCells,Array.getElem?_mapIdx,Array.getElem?_eq_getElem qF]
   simp only [Option.map_some,size_flatK,Nat.zero_le,true_and,Nat.zero_add,hj,if_true,Nat.sub_zero,id]
   rw [get_flatK _ _ _ _ hj]
   have hlt:j / k<d.size:=Nat.div_lt_of_lt_mul (by rw [Nat.mul_comm];exact hj)
   have hd:d.toList[j / k]?=some d[j / k]!:=by
    rw [getElem!_pos d _ hlt]
    simp [hlt]
   have hm:j % k<k:=Nat.mod_lt _ h0
   have hf:=zbf hk hd (j % k) hm
   have e:j / k*k+j % k=j:=by rw [Nat.mul_comm];exact Nat.div_add_mod j k
   rw [e] at hf
   rw [hf,List.getElem!_eq_getElem?_getD,List.getElem?_eq_getElem (by rw [hk];exact hm)]
   rfl
  ·rw [List.getElem?_eq_none]
   rw [zau hk]
   simp;omega
theorem zf5 {α:Type}{a:Array α}{n:Nat}(h:a.size=n):a.extract 0 n=a:=by subst h;simp
def leR (x y:List Val × Int):Prop:= ¬ yag y.1 x.1<0
theorem yno {n:Nat}(f:Fin n->List Val):SWO (ltOf fun i j:Fin n=>yag (f i) (f j)) where
 irrefl x:=by
  show decide (yag (f x) (f x)<0)=false
  rw [zf0];rfl
 trans x y z h1 h2:=by
  unfold ltOf at*
  simp only [decide_eq_true_eq] at*
  exact zbi _ _ _ h1 h2
 ntrans x y z h1 h2:=by
  unfold ltOf at*
  simp only [decide_eq_false_iff_not] at*
  intro h3
  have a:=zbs (f x) (f y)
  have b:=zbs (f y) (f z)
  by_cases e:yag (f x) (f y)=0
  ·have e:=(zar _ _).1 e
   rw [e] at h3
   exact h2 h3
  ·have h4:yag (f y) (f x)<0:=by omega
   exact h2 (zbi _ _ _ h4 h3)
def yqv (t:Tab)(g n:Nat)(w:World)(e:Ending)(w':World):Prop:=
 e= .returned (.tuple #[])/\ ∃ t',t'.Perm t/\t'.Pairwise leR/\rTab w' (some ⟨g,0,none⟩) n t'/\w.grownBy w' (some g)
theorem yzo (g n c B:Nat)(t:Tab)(w:World)(h:ownD kEnt w B (.slice (some ⟨g,0,none⟩) n c) n t)(hn:0<n)(hn2:n<=1000000)(hf: ∀ x∈t,x.1.length<=100000):
 Calls Tryz.prog 252 #[.slice (some ⟨g,0,none⟩) n c, .func (.func 253) #[] #[]] w (yqv t g n w):=by
 obtain ⟨es,h1,h2,h3⟩:=h
 have hlen:es.length=n:=by
  have:(flat ya4 es).length=n*2:=h1.1
  rw [zau za5] at this
  omega
 have htl:t.length=n:=by rw [<-h2.len];exact hlen
 rcases h1 with ⟨_,⟨e1,_⟩|⟨g',cap,cur,e1,b1,b2,b3,b4,b5,b6⟩⟩
 ·cases e1
 injection e1 with e1 e2 e3
 injection e1 with e1
 injection e1 with e1
 subst e1
 subst e3
 obtain ⟨m,rfl⟩: ∃ m,n=m+1:=⟨n - 1,by omega⟩
 have hgl:=(Array.getElem?_eq_some_iff.1 b2).1
 let E:Fin (m+1)->Ent:=fun i=>es[i.1]'(by rw [hlen];exact i.2)
 let R:Fin (m+1)->List Val × Int:=fun i=>t[i.1]'(by rw [htl];exact i.2)
 let enc:Fin (m+1)->List Value:=fun i=>ya4 (E i)
 let d:Array (Fin (m+1)):=(List.finRange (m+1)).toArray
 have hds:d.size=m+1:=by simp [d]
 have hfl: ∀ (l:List (Fin (m+1))),flat enc l=flat ya4 (l.map E):=fun l=>by simp [flat,enc,List.flatMap_map]
 have hE:(List.finRange (m+1)).map E=es:=by
  apply List.ext_getElem (by simp [hlen])
  intro i h1 h2
  simp [E]
 have hR:(List.finRange (m+1)).map R=t:=by
  apply List.ext_getElem (by simp [htl])
  intro i h1 h2
  simp [R]
 have hD: ∀ i,dEnt w (E i) (R i):=fun i=>by
  obtain ⟨b,hb,hr⟩:=h2.get (j:=i.1) (a:=E i) (List.getElem?_eq_getElem _)
  rw [List.getElem?_eq_getElem (by rw [htl];exact i.2)] at hb
  cases hb
  exact hr
 have hH:HoldsK enc 2 w g 0 d:=zoz (enc:=enc) (k:=2) (fun _=>rfl) (Nat.succ_pos 1) b2 (by
  rw [hds]
  have:cur.toList.take ((m+1)*2)=flat ya4 es:=b6
  rw [this,hfl]
  simp [d,hE])
 have far: ∀ i,0<(E i).rN-> ∀ ad,(E i).rA=some ad->ad.block≠g:=fun i h0 ad e e2=>by
  have hm:E i∈es:=List.getElem_mem _
  exact h3 _ hm ((E i).rA,(E i).rN) (List.mem_cons_self ..) h0 ad e (by rw [e2];rfl)
 have keep: ∀ (w':World),w.grownBy w' (some g)-> ∀ i,dEnt w' (E i) (R i):=fun w' hg i=>by
  refine kEnt.kept (hD i) hg fun q hq h0 ad e e2=>?_
  have hq:q∈ [((E i).rA,(E i).rN)]:=hq
  simp at hq
  subst hq
  injection e2 with e2
  exact far i h0 ad e e2
 have hcmp:CmpLays Tryz.prog 253 #[] enc 2 (fun i j:Fin (m+1)=>yag (R i).1 (R j).1) g 0 d.size w:=fun m' os dk _ x y=>by
  have hg:=zgr enc 2 w g 0 m' dk os
  have hk0:True:=trivial
  refine (yrj (E x) (E y) (R x).1 (R y).1 _ (keep _ hg x).1 (keep _ hg y).1 (hf _ (List.getElem_mem _)) (hf _ (List.getElem_mem _))).mono ?_
  rintro e w' ⟨rfl,hb⟩
  exact ⟨rfl,hb.grow⟩
 have eg: ∀ args w,(callFunc 253 args).run Tryz.prog w= .ok (.enter 253 args) w:=enters_of Tryz.func253 qG rfl
 have hcon:=AnyQ.slices_SortFunc zp9 2 Tryz.isAgg65 Tryz.sizeOf65 enc (fun _=>rfl) (fun x v hv=>zfn _ v hv) (fun i j:Fin (m+1)=>yag (R i).1 (R j).1) (yno fun i=>(R i).1) 253 #[] g 0 c d w eg hcmp hH hgl (show d.size<4611686018427387904 from by rw [hds];exact Nat.lt_of_le_of_lt hn2 (by decide))
 change Calls Tryz.prog 252 _ _ _ at hcon
 rw [hds] at hcon
 refine hcon.mono ?_
 rintro e w' ⟨rfl,d',q,os,hp,hs,rfl⟩
 obtain ⟨hp1,_,hp3⟩:=hp
 rw [hds] at hp1
 have hg:=zgr enc 2 w g 0 q d' os
 have hp4:d'.toList.Perm d.toList:=by
  have e1:=zf5 hp1
  have e2:=zf5 hds
  rw [e1,e2] at hp3
  exact hp3
 refine ⟨rfl,d'.toList.map R,?_,?_,?_,hg⟩
 ·have:=hp4.map R
  rwa [show d.toList.map R=t by simp [d,hR]] at this
 ·rw [List.pairwise_map,List.pairwise_iff_getElem]
  intro i j hi hj hij
  have hi':i<d'.size:=by simpa using hi
  have hj':j<d'.size:=by simpa using hj
  have:=hs i j (Nat.zero_le _) hij qF
  unfold ltOf at this
  rw [decide_eq_false_iff_not,getElem!_pos d' i hi',getElem!_pos d' j hj'] at this
  exact this
 ·obtain ⟨cs',k1,k2,k3⟩:=yk2 enc 2 (fun _=>rfl) (Nat.succ_pos 1) w g q d' os b2 (by
   rw [hp1]
   have:cur.size=c*2:=b5
   rw [this]
   exact Nat.mul_le_mul_right 2 b3)
  refine ⟨d'.toList.map E,za7 (by rw [zau za5];simp [hp1]) fun j u hu=>?_,?_⟩
  ·rw [<-hfl,<-k3,List.getElem?_take] at hu
   split at hu
   ·rw [World.cell?,Nat.zero_add,k1]
    simpa using hu
   ·cases hu
  ·exact dAll.of_get qH fun j a b ha hb=>by
    rw [List.getElem?_map] at ha hb
    cases hx:d'.toList[j]? with
    |none=>rw [hx] at ha;cases ha
    |some i=>
     rw [hx] at ha hb
     cases ha
     cases hb
     exact keep _ hg i
end
section
open Go.BigFrame Go.RowKit
def Ydo (t:Tab)(w:World)(e:Ending)(w':World):Prop:= ∃ A n c,e= .returned (.slice A n c)/\rTabF w' w.heap.size A n t/\n<=c/\Below w.heap.size w w'
theorem zog (A:Option Addr)(n c:Nat)(t:Tab)(w:World)(ht:rTab w A n t)(hn:n<=4096)(h12: ∀ x∈t,x.1.length<=12):Calls Tryz.prog 129 #[.slice A n c] w (Ydo t w):=by
 obtain ⟨iE,PE⟩:=zpw w.heap.size
 have HT:=qL ht
 have H12:=qL h12
 have HL:=qL ht.len
 clear ht h12
 go_enter Tryz.func129,Tryz.ntmps129
 go_wp2
 go_loopw [3,8] (fun v i wr=> ∃ k:Nat,k<=n/\i= .int .i64 k/\Below w.heap.size w wr/\Hid (ownD (ybb w.heap.size) wr w.heap.size v k (t.take k))) (fun _ i _=>n - (intOf i).toNat)
 case atStart=>exact ⟨0,by omega,rfl,za0 _,qL (ownD.nil _ _)⟩
 case round=>
  obtain ⟨k,hk,rfl,hbw,HO⟩:=hrel
  by_cases hlt:k<n
  ·obtain ⟨b1,o1,rfl,hc1⟩:=HT.out.opn qF
   obtain ⟨x,hx⟩:=zah (l:=t) (k:=k) (by have:=HL.out;omega)
   obtain ⟨rA,rN,rC,x1,x2,x3⟩:=hc1 k x hx
   have X3:=qL x3
   have hrN:rN<=12:=by have:=x3.len;have:=H12.out x (qP hx);omega
   have hv0: ∀ j,u3.ownBlock=some j->w.heap.size<=j/\j<wr.heap.size:=HO.out.lt
   have HV0:=qL hv0
   have HBW:=qL hbw
   have HX:=qL (zbc hx)
   have z1:=qM hbw x1
   have z2:=qM hbw x2
   have i1:(k:Int)<(n:Int):=by omega
   have HA:Hid (Below w.heap.size w (wr.alloc (.cells #[.slice rA rN rC, .int .i64 x.2] 65))):=qL (hbw.alloc hbw.size _)
   have c1:(wr.alloc (.cells #[.slice rA rN rC, .int .i64 x.2] 65)).cell? ⟨wr.heap.size,0,none⟩=some (.slice rA rN rC):=by simp
   have c2:(wr.alloc (.cells #[.slice rA rN rC, .int .i64 x.2] 65)).cell? ⟨wr.heap.size,1,none⟩=some (.int .i64 x.2):=by simp
   clear hc1 hx x3 hv0 x1 x2 hbw
   go_wp2_with fail
   have c1d:(wr.alloc (.cells #[.slice rA rN rC, .int .i64 x.2] 65)).drew.cell? ⟨wr.heap.size,0,none⟩=some (.slice rA rN rC):=c1
   have c2d:(wr.alloc (.cells #[.slice rA rN rC, .int .i64 x.2] 65)).drew.cell? ⟨wr.heap.size,1,none⟩=some (.int .i64 x.2):=c2
   have hk1:k<1000000:=by omega
   have hrN1:rN<=100000:=by omega
   have hne:some wr.heap.size≠u3.ownBlock:=fun e=>by have:=HV0.out _ e.symm;omega
   go_region_held3 (fun w'=>Below w.heap.size w w'/\w'.cell? ⟨wr.heap.size,0,none⟩=some (.slice rA rN rC)/\w'.cell? ⟨wr.heap.size,1,none⟩=some (.int .i64 x.2))
    ((go_split_ands;refine ⟨?_,?_,?_⟩<;>(with_reducible first |exact HA.out.drew|exact c1d|exact c2d|(refine Below.alloc ?_ (Below.size qI) _;assumption)|exact qM (zae _ _) qI|(exact zaf qI qI (fun k e=>(HV0.out k e).1))|exact World.grownBy.cell qI qI hne|(refine btr ?_ qI;assumption)|exact qM qI qI)))
    (first
     |(go_at_call 72;go_split_ands;(with_reducible refine (yjd _ _ _ x.1 _ (zb4.2 (X3.out.later HA.out.drew)) hrN1).mono ?_);rintro e w' ⟨A1,c1',rfl,hrd1,hcc1,hb1,hfr1,hown1⟩;have HB1:=qL (btr (zae wr _) (zap hb1));have HSZ:=qL (qR HBW.out.size HB1.out.size);have HF1:=qL (zb3 (n:=rN) (w1:=wr) (fun k e=>(HV0.out k e).2) (fun a e=>qR (zae wr _).size (hfr1 a e).1));have HF2:Hid (∀ a,A1=some a->w.heap.size<=a.block):=qL (fun a e=>qR HA.out.size (hfr1 a e).1);have HF3:Hid (ownD (ybb w.heap.size) (w'.alloc (.cells #[.slice A1 rN c1', .int .i64 x.2] 65)) w.heap.size u3 k (t.take k)):=qL (HO.out.later (HB1.out.alloc HB1.out.size _));have HF4:=qL (zb4.1 (hrd1.later (zae _ (.cells #[.slice A1 rN c1', .int .i64 x.2] 65)))))
     |((refine za3 _ qJ _ _ qJ PE HF3.out ⟨_,0,none⟩ ⟨A1,rN,c1',x.2⟩ x qJ qJ (zan _ _ _ _ _ _) ⟨⟨HF4.out,rfl⟩,fun _ a e=>HF2.out a e⟩ HF1.out hk1 (qR HSZ.out (zae _ _).size) ?_;intro v' w' hown' hgrow hat)))
   go_split_ands
   have HBF:Hid (Below w.heap.size w w'):=qL qI
   have HOF:Hid (ownD (ybb w.heap.size) w' w.heap.size v' (k+1) (t.take (k+1))):=qL (by rw [HX.out];exact hown')
   clear hown' hgrow hat hown1 hrd1 hfr1 hb1
   go_wp2
   go_roundw
   case rel=>exact ⟨k+1,by omega,by go_num,HBF.out,HOF⟩
   case measure=>simp [intOf];omega
  ·obtain rfl:k=n:=by omega
   obtain ⟨vA,vc,hv4,hvc,hrd,hfr⟩:=HO.out.rd
   have HR:Hid (rTabF wr w.heap.size vA k t):=qL ⟨by rw [List.take_of_length_le (by have:=HL.out;omega)] at hrd;exact hrd,fun _ a e=>(hfr a e).1⟩
   subst hv4
   clear hrd hfr
   go_wp2
   go_ret
   exact ⟨_,_,_,rfl,HR.out,hvc,hbw⟩
end
section
open Go.RowKit
def ya5 (n:Int):Val:=if n< -1073741824∨1073741824<n then zV else ⟨2,n,⟨#[]⟩⟩
theorem zkx {n:Int}(h: -1073741824<=n)(h2:n<=1073741824):ya5 n=⟨2,n,⟨#[]⟩⟩:=if_neg qF
def ygk (f:List Val->Int):Tab->Int
 | []=>0
 |x::l=>f x.1*x.2+ygk f l
theorem zjp (f:List Val->Int)(r:List Val)(n:Int): ∀ l:Tab,ygk f (ye2 r n l)=f r*n+ygk f l
 | []=>by
  unfold ye2
  split
  ·rename_i h;subst h;simp [ygk]
  ·simp [ygk]
 |x::l=>by
  have ih:=zjp f r n l
  unfold ye2
  split
  ·split
   ·rename_i h;subst h;simp
   ·rfl
  ·split
   ·rename_i h
    have e:=(zar _ _).1 h
    subst e
    split
    ·rename_i h2
     have:n= - x.2:=by omega
     subst this
     rw [ygk,Int.mul_neg];omega
    ·show f x.1*(x.2+n)+ygk f l=f x.1*n+(f x.1*x.2+ygk f l)
     rw [Int.mul_add];omega
   ·rw [ygk,ygk,ih];omega
theorem zgv (f:List Val->Int): ∀ l:Tab,ygk f (ybp l)=ygk f l
 | []=>rfl
 |x::l=>by rw [zdq,zjp,ygk,zgv f l]
theorem zim : ∀ l:Tab,ygk (fun _=>1) l=yac l
 | []=>rfl
 |x::l=>by rw [ygk,yac,zim l];omega
theorem zqi (l:Tab):yac (ybp l)=yac l:=by rw [<-zim,zgv,zim]
theorem yj7 {l:Tab}(h: ∀ x∈l,0<x.2): ∀ y∈ybp l,0<y.2:=fun y hy=>by
 have hb:=zde l
 have h1:=hb.cnt_mem hy
 rw [zdf] at h1
 have nn: ∀ (l:Tab) (r:List Val),(∀ x∈l,0<x.2)->0<=cnt l r:=by
  intro l r h
  induction l with
  |nil=>simp [cnt]
  |cons z l ih=>have:=h z (List.mem_cons_self ..);have:=ih fun u hu=>h u (qW _ hu);rw [cnt];split<;>omega
 have h2:=nn l y.1 h
 have h3:=hb.2 y hy
 omega
end
end
end Go.Proofs.YthcalfeoejdcgaaGreatDoor
