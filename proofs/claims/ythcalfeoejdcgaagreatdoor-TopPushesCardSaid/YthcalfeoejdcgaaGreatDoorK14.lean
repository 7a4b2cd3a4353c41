import Derived.Lib.AppendZeros
import Derived.Test.YthcalfeoejdcgaaGreatDoorK13
namespace Go.Proofs.YthcalfeoejdcgaaGreatDoor
set_option linter.unusedSimpArgs false
set_option linter.unusedVariables false
set_option maxRecDepth 100000
set_option maxHeartbeats 20000000
section
open Go.BigFrame Go.RowKit
def NilR (w:World)(e:Ending)(w':World):Prop:= ∃ v,e= .returned v/\ownD kVal w' w.heap.size v 0 []/\Below w.heap.size w w'
theorem Yhe (n:Nat)(hn:n<=100000)(w:World):Calls Tryz.prog 255 #[.slice none 0 0, .int .i64 n] w (NilR w):=by
 obtain ⟨i0,hi0,hz0,hz1,hz2⟩:=info_parts zi4
 by_cases h0:0<n
 ·have d1:decide ((n:Int)<0)=false:=decide_eq_false qF
  have d2:decide ((0:Int)<n)=true:=decide_eq_true qF
  have d3:decide (0<n)=true:=by simp;omega
  have m1:IntKind.i64.wrap (n:Int)=n:=by rw [IntKind.wrap_i64];omega
  have hr:=qL fun W:World=>Lib.run_append_nil_zeros (P:=Tryz.prog) W 63 3 63 46 i0 _ .i64 .i64 Tryz.underlying63 Tryz.underlying3 hi0 hz0 n h0 (by rw [hz1];decide) qF (by rw [hz2];omega)
  go_enter Tryz.func255,Tryz.ntmps255
  go_wp2_with (at_builtin;refine Lib.wpList_append_run _ rfl _ _ _ _ rfl _ _ rfl rfl _ _ (hr.out _) ?_)
  have hge:=grownCap_ge w n 0 46
  have hle:=grownCap_le_maxLen w n 0 46 (by unfold maxLen;omega)
  go_ret
  refine ⟨_,rfl,⟨[],⟨rfl, .inr ⟨w.heap.size,grownCap w n 0 46,_,rfl,qV _,(show (w.heap.push (.cells _ 46))[w.heap.size]?=some _ from Array.getElem?_push_size),Nat.zero_le _,hle,?_,rfl⟩⟩,trivial,fun a h=>by cases h⟩,(zae _ _).drew⟩
  simp only [Array.size_append,Builtin.zeroCells,Array.size_map,Array.size_range]
  show n*3+(grownCap w n 0 46 - n)*3=grownCap w n 0 46*3
  omega
 ·obtain rfl:n=0:=by omega
  go_enter Tryz.func255,Tryz.ntmps255
  go_wp2
  go_ret
  exact ⟨_,rfl,ownD.nil _ _,za0 _⟩
def yaj (ls:List (List Val)):List Val:=ls.flatMap id
theorem zhe {ls:List (List Val)}{k:Nat}{r:List Val}(h:ls[k]?=some r):yaj (ls.take (k+1))=yaj (ls.take k)++r:=by
 unfold yaj
 rw [zbc h,List.flatMap_append]
 simp
theorem zf6 : ∀ {ls:List (List Val)} (_: ∀ r∈ls,r.length<=12),(yaj ls).length<=ls.length*12
 | [],_=>by simp [yaj]
 |r::ls,h=>by
  have h1:=h r (List.mem_cons_self ..)
  have ih:=zf6 fun x hx=>h x (qW _ hx)
  have e:yaj (r::ls)=r++yaj ls:=rfl
  rw [e,List.length_append,List.length_cons]
  omega
theorem zke (A:Option Addr)(n c:Nat)(ls:List (List Val))(w:World)(h:rD kRow w A n ls)(hn:n<=100)(h12: ∀ r∈ls,r.length<=12):Calls Tryz.prog 212 #[.slice A n c] w (yg9 kVal (yaj ls).length (yaj ls) w):=by
 obtain ⟨iV,PV⟩:=yy8
 have H:=qL h
 have HL:=qL h.len
 have H12:=qL h12
 clear h h12
 go_enter Tryz.func212,Tryz.ntmps212
 go_wp2
 go_loopw [3,11] (fun s i wr=> ∃ k:Nat,k<=n/\i= .int .i64 k/\s= .int .i64 (yaj (ls.take k)).length/\wr=w) (fun _ i _=>n - (intOf i).toNat)
 case atStart=>exact ⟨0,by omega,rfl,rfl,rfl⟩
 case round=>
  obtain ⟨k,hk,rfl,rfl,rfl⟩:=hrel
  obtain ⟨w,rfl⟩: ∃ w,w=wr:=⟨_,rfl⟩
  have hsm:(yaj (ls.take k)).length<=1200:=by
   have h1:=zf6 (ls:=ls.take k) fun r hr=>H12.out r (List.mem_of_mem_take hr)
   have h2:=List.length_take (i:=k) (l:=ls)
   omega
  by_cases hlt:k<n
  ·obtain ⟨b1,o1,rfl,hc1⟩:=H.out.opn qF
   obtain ⟨r,hr⟩:=zah (l:=ls) (k:=k) (by have:=HL.out;omega)
   obtain ⟨⟨rA,rN,rC⟩,x3,hcell⟩:=hc1 k r hr
   have x1:=hcell 0 (.slice rA rN rC) (by show 0<1;omega) rfl
   have x1:w.cell? ⟨b1,o1+k,none⟩=some (.slice rA rN rC):=by rw [show o1+k=o1+k*kRow.C+0 by show o1+k=o1+k*1+0;omega];exact x1
   have hrl:r.length=rN:=(show rVal w rA rN r from x3).len
   have hr12:=H12.out r (qP hr)
   have HS:Hid ((yaj (ls.take (k+1))).length=(yaj (ls.take k)).length+rN):=qL (by rw [zhe hr,List.length_append,hrl])
   have m1:IntKind.i64.wrap (((yaj (ls.take k)).length:Int)+(rN:Int))=((yaj (ls.take k)).length:Int)+(rN:Int):=by rw [IntKind.wrap_i64];omega
   have d1:decide (((yaj (ls.take k)).length:Int)+(rN:Int)<0)=false:=by simp;omega
   clear hc1 hr x3 hcell hrl
   go_wp2
   go_roundw
   case rel=>exact ⟨k+1,by omega,by go_num,by rw [HS.out];simp,by first |rfl|trivial⟩
   case measure=>simp [intOf];omega
  ·obtain rfl:k=n:=by omega
   have HTT:Hid (ls.take k=ls):=qL (List.take_of_length_le (by have:=HL.out;omega))
   have HG:=qL (Yhe (yaj (ls.take k)).length qF w)
   go_wp2_with fail
   refine HG.out.mono ?_
   rintro e w1 ⟨v1,rfl,hown1,hb1⟩
   have HB1:=qL hb1
   have HO1:=qL hown1
   clear hown1 hb1
   go_wp2
   go_loopw [6,27] (fun v i wx=> ∃ j:Nat,j<=k/\i= .int .i64 j/\Below w.heap.size w wx/\Hid (ownD kVal wx w.heap.size v (yaj (ls.take j)).length (yaj (ls.take j)))) (fun _ i _=>k - (intOf i).toNat)
   case atStart=>exact ⟨0,by omega,rfl,HB1.out,HO1⟩
   case round=>
    obtain ⟨j,hj,rfl,hbx,HO⟩:=hrel
    obtain ⟨wx,rfl⟩: ∃ wx,wx=wr:=⟨_,rfl⟩
    have HBX:=qL hbx
    by_cases hjl:j<k
    ·obtain ⟨b1,o1,rfl,hc1⟩:=H.out.opn qF
     obtain ⟨r,hr⟩:=zah (l:=ls) (k:=j) (by have:=HL.out;omega)
     obtain ⟨⟨rA,rN,rC⟩,x3,hcell⟩:=hc1 j r hr
     have x1:=hcell 0 (.slice rA rN rC) (by show 0<1;omega) rfl
     have x1:=qM hbx (show w.cell? ⟨b1,o1+j,none⟩=some (.slice rA rN rC) by rw [show o1+j=o1+j*kRow.C+0 by show o1+j=o1+j*1+0;omega];exact x1)
     have HF:Hid (rVal wx rA rN r):=qL ((show rVal _ rA rN r from x3).later hbx)
     have HS:Hid (yaj (ls.take (j+1))=yaj (ls.take j)++r):=qL (zhe hr)
     have hr12:=H12.out r (qP hr)
     have hrl:=HF.out.len
     have hsz:=hbx.size
     have hsm:(yaj (ls.take j)).length<=1200:=by
      have h1:=zf6 (ls:=ls.take j) fun r hr=>H12.out r (List.mem_of_mem_take hr)
      have h2:=List.length_take (i:=j) (l:=ls)
      omega
     have hnn:(yaj (ls.take j)).length+rN<1000000:=by omega
     have HV0:Hid (∀ y,u6.ownBlock=some y->w.heap.size<=y):=qL fun y e=>(HO.out.lt y e).1
     clear hc1 hr x3 hcell hbx hrl hr12 hsm
     go_wp2_with (at_builtin;refine zc1 _ rfl _ _ rfl PV HO.out HF.out (zbg _) rfl rfl hnn hsz (fun a h p hp=>by cases hp) ?_;intro v1 w1 hown hg hat)
     have HOF:Hid (ownD kVal w1 w.heap.size v1 (yaj (ls.take (j+1))).length (yaj (ls.take (j+1)))):=qL (za2 hown HS.out)
     have HBF:=qL (zaf HBX.out hg HV0.out)
     clear hown hg hat
     go_wp2
     go_roundw
     case rel=>exact ⟨j+1,by omega,by go_num,HBF.out,HOF⟩
     case measure=>simp [intOf];omega
    ·obtain rfl:j=k:=by omega
     have HOZ:=qL (za2 HO.out (l':=yaj ls) (by rw [HTT.out]))
     obtain ⟨A8,c8,rfl,hcc8,hrd8,hfr8⟩:=HO.out.rd
     have HLE:Hid ((yaj (ls.take j)).length=(yaj ls).length):=qL (by rw [HTT.out])
     go_wp2
     go_ret
     have hrd9:rD kVal wx A8 (yaj ls).length (yaj ls):=by
      have h:=hrd8
      rw [HTT.out] at h
      exact h
     refine ⟨A8,c8,by rw [HLE.out];rfl,hrd9,by rw [<-HLE.out];exact hcc8,hbx,hfr8,?_⟩
     rw [<-HLE.out]
     have h:=HOZ.out
     rw [<-HLE.out] at h
     exact h
structure okJn (cs cs':List Col)(nm ot:List ByteArray)(ps:List Int)(t u:Tab):Prop where
 names:ybu cs nm
 len:nm.length=ot.length
 tab:ybi t
 mat:okMat cs' ot ps u
structure okJo (left:Bool)(cs cs':List Col)(nm ot:List ByteArray)(its:List Itm)(t u:Tab):Prop where
 jn:okJn cs cs' nm ot (its.map fun x=>yao cs' x.co) t u
 w12: ∀ x∈t,x.1.length+its.length<=12
 sum:yac (ybe left (nm.map (yao cs)) (ot.map (yao cs')) (its.map fun x=>yao cs' x.co) t u)<=4095
theorem zhi {left:Bool}{ns os ps:List Int}{u:Tab}(hu: ∀ x∈u,0<x.2)(hv: ∀ x∈u,vOk x.1)(r:List Val): ∀ y∈yit left ps.length (ycl ns os ps u r),0<y.2/\y.1.length=ps.length/\vOk y.1:=fun y hy=>by
 have key: ∀ y∈ycl ns os ps u r,0<y.2/\y.1.length=ps.length/\vOk y.1:=fun y hy=>by
  unfold ycl at hy
  split at hy
  ·cases hy
  ·obtain ⟨h1,x,hx,e⟩:=(zc5 hu).2.1 y hy
   exact ⟨h1,by rw [e,zdi],by rw [e];exact zer (hv x hx) ps⟩
 cases h:ycl ns os ps u r with
 |nil=>
  rw [h] at hy
  cases left with
  |false=>cases hy
  |true=>
   have hy:y∈ [(List.replicate ps.length zV,(1:Int))]:=hy
   rw [List.mem_singleton] at hy
   subst hy
   exact ⟨by omega,by simp,fun v hv=>by rw [(List.mem_replicate.1 hv).2];exact zes⟩
 |cons z l=>
  rw [h] at hy
  exact key y (by rw [h];exact hy)
theorem zo7 {left:Bool}{ns os ps:List Int}{t u:Tab}{m:Nat}(ht: ∀ x∈t,0<x.2/\vOk x.1/\x.1.length+ps.length<=m)(hu: ∀ x∈u,0<x.2)(hv: ∀ x∈u,vOk x.1): ∀ y∈ybe left ns os ps t u,0<y.2/\y.1.length<=m/\vOk y.1:=fun y hy=>by
 obtain ⟨x,hx,hy⟩:=List.mem_flatMap.1 hy
 obtain ⟨z,hz,rfl⟩:=List.mem_map.1 hy
 obtain ⟨h1,h2,h3⟩:=ht x hx
 obtain ⟨k1,k2,k3⟩:=zhi hu hv x.1 z hz
 refine ⟨Int.mul_pos h1 k1,?_,fun v hv=>?_⟩
 ·show (x.1++z.1).length<=m
  rw [List.length_append,k2];exact h3
 ·rcases List.mem_append.1 (show v∈x.1++z.1 from hv) with h|h
  ·exact h2 v h
  ·exact k3 v h
def ybh (left:Bool)(ns os ps:List Int)(t u:Tab)(k j:Nat)(x:List Val × Int)(lv:Tab):Tab:=ybe left ns os ps (t.take k) u++(lv.take j).map fun y=>(x.1++y.1,x.2*y.2)
theorem zef {left:Bool}{ns os ps:List Int}{t u:Tab}{k j:Nat}{x y:List Val × Int}{lv:Tab}(h:lv[j]?=some y):ybh left ns os ps t u k (j+1) x lv=ybh left ns os ps t u k j x lv++ [(x.1++y.1,x.2*y.2)]:=by
 unfold ybh
 rw [zbc h,List.map_append,<-List.append_assoc]
 rfl
theorem zcx {left:Bool}{ns os ps:List Int}{t u:Tab}{k:Nat}{x:List Val × Int}(h:t[k]?=some x):ybe left ns os ps (t.take (k+1)) u=ybe left ns os ps (t.take k) u++(yit left ps.length (ycl ns os ps u x.1)).map fun y=>(x.1++y.1,x.2*y.2):=by
 unfold ybe
 rw [zbc h,List.flatMap_append]
 simp [yyt]
theorem ylk {a b:Tab}(hb: ∀ x∈b,0<x.2):yac a<=yac (a++b):=by
 rw [zbb]
 have:=zbp hb
 omega
theorem zgc {a:Tab}(h: ∀ x∈a,0<x.2):(a.length:Int)<=yac a:=by
 induction a with
 |nil=>simp [yac]
 |cons x l ih=>
  have h1:=h x (List.mem_cons_self ..)
  have h2:=ih fun y hy=>h y (qW _ hy)
  rw [yac,List.length_cons];omega
theorem ymk {a:Tab}(h: ∀ x∈a,0<x.2){x:List Val × Int}(hx:x∈a):x.2<=yac a:=by
 induction a with
 |nil=>cases hx
 |cons y l ih=>
  have h1:=h y (List.mem_cons_self ..)
  have h2:=zbp fun z hz=>h z (qW y hz)
  rw [yac]
  rcases qY hx with rfl|hx
  ·omega
  ·have:=ih (fun z hz=>h z (qW _ hz)) hx;omega
theorem zpe (n:Nat)(W:World)(hn:n<=12): ∃ w',(Instr.makeSlice 63 (.int .i64 (n:Int)) (.int .i64 (n:Int))).run Tryz.prog W= .ok (.slice (some ⟨W.heap.size,0,none⟩) n n) w'/\
 w'.ownsRow W.heap.size 46 3 (.slice (some ⟨W.heap.size,0,none⟩) n n) n (flat yat (List.replicate n zV))/\W.grownBy w' none:=by
 obtain ⟨i0,hi0,hz0,hz1,hz2⟩:=info_parts zi4
 have:=run_make_full (P:=Tryz.prog) W W.heap.size 63 46 i0 _ 3 Tryz.underlying63 hi0 hz0 hz1 .i64 .i64 n (by rw [hz2];omega) (by unfold maxLen;omega) (qV _)
 rwa [zme zV _ za4 rfl] at this
theorem zps {w:World}{A:Option Addr}{N C:Nat}{r:List Val}{B:Nat}(h:rVal w A N r)(hB:0<N-> ∀ a,A=some a->B<=a.block)(hB2:B<=w.heap.size):rTabF (w.alloc (.cells #[.slice A N C, .int .i64 1] 65)) B (some ⟨w.heap.size,0,none⟩) 1 [(r,1)]:=by
 refine ⟨⟨[⟨A,N,C,1⟩],za7 rfl fun j u h=>?_,⟨⟨⟨h.later (zae _ _),rfl⟩,hB⟩,trivial⟩⟩,fun _ a e=>by cases e;exact hB2⟩
 have h:=zan w 65 A N C 1 j u h
 rw [zaw] at h
 simpa using h
theorem zc8 (w:World)(xA yA:Option Addr)(xN xC yN yC:Nat)(a b:List Val)(hx:rVal w xA xN a)(hy:rVal w yA yN b):rD kRow (w.alloc (.cells #[.slice xA xN xC, .slice yA yN yC] 63)) (some ⟨w.heap.size,0,none⟩) 2 [a,b]:=by
 refine ⟨[(xA,xN,xC),(yA,yN,yC)],za7 rfl fun j u h=>?_,⟨hx.later (zae _ _),hy.later (zae _ _),trivial⟩⟩
 have h: [Value.slice xA xN xC,Value.slice yA yN yC][j]?=some u:=h
 match j,h with
 |0,h=>cases h;simp
 |1,h=>cases h;simp
theorem zf7 (a b:List Val):yaj [a,b]=a++b:=by simp [yaj]
theorem zcs {w w':World}{a:Addr}{v:Value}(h:w.cell? a=some v)(e:w'.heap[a.block]?=w.heap[a.block]?):w'.cell? a=some v:=(World.cell?_of_block e).trans h
theorem zgb {left:Bool}{ns os ps:List Int}{t u:Tab}{k j:Nat}{x y:List Val × Int}{lv:Tab}(hx:t[k]?=some x)(hpos: ∀ z∈ybe left ns os ps t u,0<z.2)(hlv:lv=yit left ps.length (ycl ns os ps u x.1))(hy:lv[j]?=some y):((ybh left ns os ps t u k j x lv).length:Int)+1<=yac (ybe left ns os ps t u)/\x.2*y.2<=yac (ybe left ns os ps t u):=by
 obtain ⟨rest,e⟩: ∃ rest,ybe left ns os ps t u=ybh left ns os ps t u k (j+1) x lv++rest:=by
  refine ⟨((lv.drop (j+1)).map fun y=>(x.1++y.1,x.2*y.2))++ybe left ns os ps (t.drop (k+1)) u,?_⟩
  unfold ybh
  rw [List.append_assoc,<-List.append_assoc (List.map _ _),<-List.map_append,List.take_append_drop,<-List.append_assoc,hlv,<-zcx hx]
  unfold ybe
  rw [<-List.flatMap_append,List.take_append_drop]
 have hsn:=zef (left:=left) (ns:=ns) (os:=os) (ps:=ps) (t:=t) (u:=u) (k:=k) (x:=x) hy
 have hp1: ∀ z∈ybh left ns os ps t u k (j+1) x lv,0<z.2:=fun z hz=>hpos z (by rw [e];exact List.mem_append_left _ hz)
 have h1:=zgc hp1
 have h2:=ylk (a:=ybh left ns os ps t u k (j+1) x lv) (b:=rest) fun z hz=>hpos z (by rw [e];exact List.mem_append_right _ hz)
 rw [<-e] at h2
 refine ⟨?_,?_⟩
 ·rw [hsn,List.length_append,List.length_singleton] at h1
  rw [hsn] at h2
  omega
 ·exact ymk hpos (x:=(x.1++y.1,x.2*y.2)) (by rw [e,hsn];exact List.mem_append_left _ (List.mem_append_right _ (List.mem_singleton.2 rfl)))
theorem Yhg (op:Int)(so:ByteArray)(nA oA iA dA:Option Addr)(nN nC oN oC iN iC dN dC:Nat)(nm:ByteArray)(cA kA rA:Option Addr)(cN cC kN kC rN rC:Nat)(nm':ByteArray)(cA' kA' rA':Option Addr)(cN' cC' kN' kC' rN' rC':Nat)(left:Bool)(names others:List ByteArray)(its:List Itm)(cs cs':List Col)(t u:Tab)(w:World)
 (hns:rStr w nA nN names) (hos:rStr w oA oN others) (hits:rItm w iA iN its) (hcs:rCol w cA cN cs) (hcs':rCol w cA' cN' cs') (ht:rTab w rA rN t) (hu:rTab w rA' rN' u) (hnc:nN<=nC) (hoc:oN<=oC) (hcn:cN<=12) (hcn':cN'<=12) (hok:okJo left cs cs' names others its t u):
 Calls Tryz.prog 134 #[.agg #[.int .i64 op, .string so, .slice nA nN nC, .slice oA oN oC, .slice iA iN iC, .slice dA dN dC], .agg #[.string nm, .slice cA cN cC, .slice kA kN kC, .slice rA rN rC], .agg #[.string nm', .slice cA' cN' cC', .slice kA' kN' kC', .slice rA' rN' rC'], .bool left] w (ye6 (ygu left (names.map (yao cs)) (others.map (yao cs')) (its.map fun x=>yao cs' x.co) t u) w):=by
 obtain ⟨ns,hnsE⟩: ∃ ns,ns=names.map (yao cs):=⟨_,rfl⟩
 obtain ⟨os,hosE⟩: ∃ os,os=others.map (yao cs'):=⟨_,rfl⟩
 obtain ⟨ps,hpsE⟩: ∃ ps,ps=its.map fun x=>yao cs' x.co:=⟨_,rfl⟩
 rw [<-hnsE,<-hosE,<-hpsE]
 have HNS:=qL hnsE
 have HOS:=qL hosE
 have HPS:=qL hpsE
 have HSUM:Hid (yac (ybe left ns os ps t u)<=4095):=qL (by rw [hnsE,hosE,hpsE];exact hok.sum)
 clear hnsE hosE hpsE
 obtain ⟨iI,PI⟩:=Yc6
 have HMK:=qL fun (W:World)=>zpe iN W (show iN<=12 by have:=hok.jn.mat.p12;rw [List.length_map] at this;have:=hits.len;omega)
 have HT:=qL ht
 have HI:=qL hits
 have LI:=qL hits.len
 have HK:=qL hok.jn
 have HW:=qL hok.w12
 have LN:=qL hns.len
 have LO:=qL hos.len
 have LT:=qL ht.len
 have LPS:Hid (ps.length=iN):=qL (by rw [HPS.out,List.length_map];exact hits.len)
 have hi12:iN<=12:=by have:=hok.jn.mat.p12;rw [List.length_map] at this;have:=hits.len;omega
 have hn12:nN<=12:=by have:=hns.len;have:=hos.len;have:=hok.jn.len;have:=hok.jn.mat.n12;omega
 have hrn:rN<=4096:=by have:=ht.len;have:=hok.jn.tab.1.1;omega
 obtain ⟨w0,hw0⟩: ∃ w0,w0=(((w.alloc (.cells #[.int .i64 op, .string so, .slice nA nN nC, .slice oA oN oC, .slice iA iN iC, .slice dA dN dC] 44)).alloc (.cells #[.string nm, .slice cA cN cC, .slice kA kN kC, .slice rA rN rC] 31)).alloc (.cells #[.string nm', .slice cA' cN' cC', .slice kA' kN' kC', .slice rA' rN' rC'] 31)):=⟨_,rfl⟩
 have HB0:Hid (Below w.heap.size w w0):=qL (by rw [hw0];exact ((zae _ _).alloc qH _).alloc (by simp;omega) _)
 have a0:w0.cell? ⟨w.heap.size,0,none⟩=some (.int .i64 op):=by rw [hw0];exact qM (zae _ _) (qM (zae _ _) qH)
 have a1:w0.cell? ⟨w.heap.size,1,none⟩=some (.string so):=by rw [hw0];exact qM (zae _ _) (qM (zae _ _) qH)
 have a2:w0.cell? ⟨w.heap.size,2,none⟩=some (.slice nA nN nC):=by rw [hw0];exact qM (zae _ _) (qM (zae _ _) qH)
 have a3:w0.cell? ⟨w.heap.size,3,none⟩=some (.slice oA oN oC):=by rw [hw0];exact qM (zae _ _) (qM (zae _ _) qH)
 have a4:w0.cell? ⟨w.heap.size,4,none⟩=some (.slice iA iN iC):=by rw [hw0];exact qM (zae _ _) (qM (zae _ _) qH)
 have a5:w0.cell? ⟨w.heap.size,5,none⟩=some (.slice dA dN dC):=by rw [hw0];exact qM (zae _ _) (qM (zae _ _) qH)
 have b0:w0.cell? ⟨w.heap.size+1,0,none⟩=some (.string nm):=by rw [hw0];exact qM (zae _ _) qH
 have b1:w0.cell? ⟨w.heap.size+1,1,none⟩=some (.slice cA cN cC):=by rw [hw0];exact qM (zae _ _) qH
 have b2:w0.cell? ⟨w.heap.size+1,2,none⟩=some (.slice kA kN kC):=by rw [hw0];exact qM (zae _ _) qH
 have b3:w0.cell? ⟨w.heap.size+1,3,none⟩=some (.slice rA rN rC):=by rw [hw0];exact qM (zae _ _) qH
 have c0:w0.cell? ⟨w.heap.size+2,0,none⟩=some (.string nm'):=by rw [hw0];exact zaa qH qH
 have c1:w0.cell? ⟨w.heap.size+2,1,none⟩=some (.slice cA' cN' cC'):=by rw [hw0];exact zaa qH qH
 have c2:w0.cell? ⟨w.heap.size+2,2,none⟩=some (.slice kA' kN' kC'):=by rw [hw0];exact zaa qH qH
 have c3:w0.cell? ⟨w.heap.size+2,3,none⟩=some (.slice rA' rN' rC'):=by rw [hw0];exact zaa qH qH
 have e1:(((w.alloc (.cells #[.int .i64 op, .string so, .slice nA nN nC, .slice oA oN oC, .slice iA iN iC, .slice dA dN dC] 44)).alloc (.cells #[.string nm, .slice cA cN cC, .slice kA kN kC, .slice rA rN rC] 31)).alloc (.cells #[.string nm', .slice cA' cN' cC', .slice kA' kN' kC', .slice rA' rN' rC'] 31)).cell? ⟨w.heap.size+1,1,none⟩=some (.slice cA cN cC):=by rw [<-hw0];exact b1
 have e2:(((w.alloc (.cells #[.int .i64 op, .string so, .slice nA nN nC, .slice oA oN oC, .slice iA iN iC, .slice dA dN dC] 44)).alloc (.cells #[.string nm, .slice cA cN cC, .slice kA kN kC, .slice rA rN rC] 31)).alloc (.cells #[.string nm', .slice cA' cN' cC', .slice kA' kN' kC', .slice rA' rN' rC'] 31)).cell? ⟨w.heap.size,2,none⟩=some (.slice nA nN nC):=by rw [<-hw0];exact a2
 have HIX:=qL (yoe cA cN cC cs nA nN nC names w0 (hcs.later HB0.out) (hns.later HB0.out) hok.jn.names qF qF hnc)
 have HCC:=qL hcs'
 have HMA:=qL fun W (hb:Below w.heap.size w W) (pA:Option Addr) (pC:Nat) (hp:rInt W pA iN ps)=>ygz op so nA oA iA dA nN nC oN oC iN iC dN dC nm' cA' kA' rA' cN' cC' kN' kC' rN' rC' pA iN pC others cs' ps u W (hos.later hb) (hcs'.later hb) (hu.later hb) hp hoc hcn' (by rw [HPS.out];exact hok.jn.mat)
 rw [hw0] at HIX
 clear hns hos hits hcs hcs' ht hu hok
 go_enter Tryz.func134,Tryz.ntmps134
 go_wp2_with fail
 rw [<-hw0] at HIX ⊢
 clear e1 e2 hw0
 refine HIX.out.mono ?_
 rintro e w1 ⟨B1,m1,k1,rfl,hri,hmk,hb1⟩
 have hri:rInt w1 B1 m1 ns:=by rw [HNS.out];exact hri
 have HRI:=qL hri
 have HB1:=qL (HB0.out.trans (hb1.mono HB0.out.size))
 have a0:=qM hb1 a0
 have a1:=qM hb1 a1
 have a2:=qM hb1 a2
 have a3:=qM hb1 a3
 have a4:=qM hb1 a4
 have a5:=qM hb1 a5
 have b0:=qM hb1 b0
 have c0:=qM hb1 c0
 have b1:=qM hb1 b1
 have c1:=qM hb1 c1
 have b2:=qM hb1 b2
 have c2:=qM hb1 c2
 have b3:=qM hb1 b3
 have c3:=qM hb1 c3
 have hm1:m1=nN:=by have:=hri.len;rw [HNS.out,List.length_map] at this;have:=LN.out;omega
 subst hm1
 clear hri hb1 HIX
 go_wp2
 go_loopw [12,34] (fun v iv wr=> ∃ k:Nat,k<=iN/\iv= .int .i64 k/\Below w1.heap.size w1 wr/\Hid (ownD kInt wr w1.heap.size v k (ps.take k))) (fun _ iv _=>iN - (intOf iv).toNat)
 case atStart=>exact ⟨0,by omega,rfl,za0 _,qL (ownD.nil _ _)⟩
 case round=>
  obtain ⟨k,hk,rfl,hbw,HO⟩:=hrel
  obtain ⟨wz,rfl⟩: ∃ wz,wz=wr:=⟨_,rfl⟩
  have HBW:=qL hbw
  by_cases hlt:k<iN
  ·obtain ⟨g1,o1,rfl,hci⟩:=HI.out.opn qF
   obtain ⟨x,hx⟩:=zah (l:=its) (k:=k) (by have:=LI.out;omega)
   obtain ⟨x1,x2,x3,x4,x5⟩:=hci k x hx
   have bX:=btr HB1.out hbw
   have z1:=qM bX x1
   have z2:=qM bX x2
   have z3:=qM bX x3
   have z4:=qM bX x4
   have z5:=qM bX x5
   have y1:=qM hbw c1
   have y2:(wz.alloc (.cells #[.string x.nm, .int .i64 x.f, .string x.co, .int .i64 x.num, .slice x.exA x.exN x.exC] 40)).cell? ⟨w.heap.size+2,1,none⟩=some (.slice cA' cN' cC'):=qM (zae _ _) y1
   have HPX:Hid (ps.take (k+1)=ps.take k++ [yao cs' x.co]):=qL (zbc (by rw [HPS.out,List.getElem?_map,hx];rfl))
   have HIE:=qL (zl9 cA' cN' cC' cs' x.co (wz.alloc (.cells #[.string x.nm, .int .i64 x.f, .string x.co, .int .i64 x.num, .slice x.exA x.exN x.exC] 40)) ((HCC.out.later bX).later (zae _ _)) qF)
   have HV0:Hid (∀ y,u12.ownBlock=some y->w1.heap.size<=y):=qL fun y e=>(HO.out.lt y e).1
   clear hci hx x1 x2 x3 x4 x5 bX hbw
   go_wp2_with fail
   refine HIE.out.mono ?_
   rintro e w3 ⟨rfl,hb3⟩
   have HB3:=qL (btr HBW.out (btr (zae wz (.cells #[.string x.nm, .int .i64 x.f, .string x.co, .int .i64 x.num, .slice x.exA x.exN x.exC] 40)) hb3))
   have HO3:=qL ((HO.out.later (btr (zae wz (.cells #[.string x.nm, .int .i64 x.f, .string x.co, .int .i64 x.num, .slice x.exA x.exN x.exC] 40)) hb3)).later (zae w3 (.cells #[.int .i64 (yao cs' x.co)] 3)))
   have hsz3:w1.heap.size<=(w3.alloc (.cells #[.int .i64 (yao cs' x.co)] 3)).heap.size:=qR HB3.out.size (zae _ _).size
   clear hb3 z1 z2 z3 z4 z5 y1 y2
   go_wp2_with (at_builtin;refine zaq _ rfl _ _ rfl PI HO3.out ⟨_,0,none⟩ (yao cs' x.co) (yao cs' x.co) rfl rfl zd5 rfl (fun p hp=>by cases hp) qF hsz3 ?_;intro v' w' hown' hgrow hat)
   have HBF:=qL (zaf (HB3.out.alloc HB3.out.size _) hgrow HV0.out)
   have HOF:Hid (ownD kInt w' w1.heap.size v' (k+1) (ps.take (k+1))):=qL (by rw [HPX.out];exact hown')
   clear hown' hgrow hat
   go_wp2
   go_roundw
   case rel=>exact ⟨k+1,by omega,by go_num,HBF.out,HOF⟩
   case measure=>simp [intOf];omega
  ·obtain rfl:k=iN:=by omega
   obtain ⟨iN,rfl⟩: ∃ iN:Nat,iN=k:=⟨_,rfl⟩
   obtain ⟨pA,pC,rfl,hpc,hrp,hfp⟩:=HO.out.rd
   have HRP:Hid (rInt wz pA iN ps):=qL (by rw [List.take_of_length_le (by have:=LPS.out;omega)] at hrp;exact zgl.1 hrp)
   have a0:=qM hbw a0
   have a1:=qM hbw a1
   have a2:=qM hbw a2
   have a3:=qM hbw a3
   have a4:=qM hbw a4
   have a5:=qM hbw a5
   have b0:=qM hbw b0
   have b1:=qM hbw b1
   have b2:=qM hbw b2
   have b3:=qM hbw b3
   have c0:=qM hbw c0
   have c1:=qM hbw c1
   have c2:=qM hbw c2
   have c3:=qM hbw c3
   have HMZ:=qL (HMA.out wz (btr HB1.out hbw) pA pC HRP.out)
   have HBZ:=qL (btr HB1.out hbw)
   clear hrp hfp hbw HO HMA
   go_wp2_with fail
   refine HMZ.out.mono ?_
   rintro e w2 ⟨mb,mN,rfl,hmr,hb2⟩
   have hmr:MatRd Tryz.prog w2 mb mN os.length (fun k=>yff os ps k u):=by rw [HOS.out];exact hmr
   have HMR:=qL hmr
   have HB2:=qL (btr HBZ.out hb2)
   have HRI2:=qL (HRI.out.later (btr HBW.out hb2))
   have b3:=qM hb2 b3
   have HOL:Hid (os.length=m1/\ns.length=m1):=qL (by rw [HOS.out,HNS.out,List.length_map,List.length_map];have h1:=LN.out;have h2:=LO.out;have h3:=HK.out.len;omega)
   have HJP:Hid (∀ kk,∀ y∈ybe left ns os ps (t.take kk) u,0<y.2):=qL fun kk y hy=>(zo7 (m:=12) (fun x hx=>⟨HK.out.tab.2 x (List.mem_of_mem_take hx),(HK.out.tab.1.2.2 x (List.mem_of_mem_take hx)).2.2.2,by have:=HW.out x (List.mem_of_mem_take hx);have:=LI.out;have:=LPS.out;omega⟩) HK.out.mat.pos HK.out.mat.val y hy).1
   obtain ⟨iE,PE⟩:=zpw w2.heap.size
   clear a0 a1 a2 a3 a4 a5 b0 b1 b2 c0 c1 c2 c3 hmr hb2 HMZ
   go_wp2
   go_loopw [16,54] (fun v iv wr=> ∃ k:Nat,k<=rN/\iv= .int .i64 k/\Below w2.heap.size w2 wr/\Hid (ownD (ybb w2.heap.size) wr w2.heap.size v (ybe left ns os ps (t.take k) u).length (ybe left ns os ps (t.take k) u))) (fun _ iv _=>rN - (intOf iv).toNat)
   case atStart=>exact ⟨0,by omega,rfl,za0 _,qL (ownD.nil _ _)⟩
   case round=>
    obtain ⟨k,hk,rfl,hbw,HO⟩:=hrel
    obtain ⟨wo,rfl⟩: ∃ wo,wo=wr:=⟨_,rfl⟩
    have HBW:=qL hbw
    by_cases hlt:k<rN
    ·obtain ⟨g1,o1,rfl,hc1⟩:=HT.out.opn qF
     obtain ⟨x,hx⟩:=zah (l:=t) (k:=k) (by have:=LT.out;omega)
     obtain ⟨xA,xN,xC,x1,x2,x3⟩:=hc1 k x hx
     have X3:=qL x3
     have HX:=qL hx
     have hB:=btr HB2.out hbw
     have z1:=qM hB x1
     have z2:=qM hB x2
     have hmm:=qP hx
     have hx12:=(HK.out.tab.1.2.2 x hmm).1
     have hxN:xN<=12:=by have:=x3.len;omega
     have HVK:Hid (vRow m1 (pkV ns x.1)):=qL ⟨zer (HK.out.tab.1.2.2 x hmm).2.2.2 ns,by rw [zdi];exact HOL.out.2⟩
     have HPI:=qL (ypd xA xN xC x.1 B1 m1 k1 ns (wo.alloc (.cells #[.slice xA xN xC, .int .i64 x.2] 65)) ((x3.later hB).later (zae _ _)) ((HRI2.out.later hbw).later (zae _ _)) qF qF)
     have HV0:Hid (∀ y,u16.ownBlock=some y->w2.heap.size<=y/\y<wo.heap.size):=qL HO.out.lt
     clear hc1 hx x3 hB hbw x1 x2 hmm
     go_wp2_with fail
     refine HPI.out.mono ?_
     rintro e w3 ⟨A1,c1,rfl,hrd,hcc,hb3,hfr,_⟩
     have HRD:Hid (rVal w3 A1 m1 (pkV ns x.1)):=qL (zb4.1 hrd)
     have HB3:=qL (btr (zae wo _) hb3)
     have q0:w3.cell? ⟨wo.heap.size,0,none⟩=some (.slice xA xN xC):=qM hb3 qH
     have q1:w3.cell? ⟨wo.heap.size,1,none⟩=some (.int .i64 x.2):=qM hb3 qH
     have HNU:=qL (yo1 A1 m1 c1 (pkV ns x.1) w3 HRD.out qF)
     clear hrd hb3 hfr
     cases hnul:ycb (pkV ns x.1)
     ·have HNULL:=qL hnul
      rw [hnul] at HNU
      clear hnul
      go_wp2_with fail
      refine HNU.out.mono ?_
      rintro e w4 ⟨rfl,hb4⟩
      have HB4:=qL (btr HB3.out hb4)
      have q0:=qM hb4 q0
      have q1:=qM hb4 q1
      have HKE:=qL (ymi A1 m1 c1 (pkV ns x.1) w4 (HRD.out.later hb4) qF HVK.out.1)
      clear hb4
      go_wp2_with fail
      refine HKE.out.mono ?_
      rintro e w5 ⟨rfl,hb5⟩
      have HB5:=qL (btr HB4.out hb5)
      have q0:=qM hb5 q0
      have q1:=qM hb5 q1
      obtain ⟨f,hmp,hrd⟩:=HMR.out
      obtain ⟨lA,lN,lC,hge,hlt2,hlc⟩:=hrd (pkV ns x.1) ⟨HVK.out.1,by rw [HVK.out.2,HOL.out.1]⟩ HNULL.out
      have hlk:=(hmp.later (btr HBW.out HB5.out)).look Tryz.underlying9 Tryz.underlying218 (z:= .slice none 0 0) (Tryz.zeroValue29 _) (yav (pkV ns x.1)) (zdo HVK.out.1 (by have:=HVK.out.2;omega))
      rw [hge] at hlk
      have HLV:=qL hlt2
      clear hb5 hmp hrd hge hlt2
      have HLK:Hid (ycl ns os ps u x.1=yff os ps (pkV ns x.1) u):=qL (by unfold ycl;rw [if_neg (by simp [HNULL.out])])
      by_cases h0:lN=0
      ·have HZ:Hid (ycl ns os ps u x.1= []):=qL (by rw [HLK.out];exact List.length_eq_zero_iff.1 (by have hh:(yff os ps (pkV ns x.1) u).length=lN:=HLV.out.len;rw [hh];exact h0))
       subst h0
       have HQ:=HB5
       obtain ⟨lv,hlv⟩: ∃ lv,lv=yit left ps.length (ycl ns os ps u x.1):=⟨_,rfl⟩
       have HLE:=qL hlv
       have HL0:Hid ((left=false->lv= [])/\(left=true->lv= [(List.replicate ps.length zV,1)])):=qL (by rw [hlv,HZ.out];exact ⟨fun e=>by rw [e];rfl,fun e=>by rw [e];rfl⟩)
       cases left
       ·have HLR:Hid (∀ W,Below w2.heap.size w2 W->(∀ b,wo.heap.size<=b->b<w5.heap.size->W.heap[b]?=w5.heap[b]?)->rTab W none 0 lv):=qL fun W _ _=>by rw [HL0.out.1 rfl];exact rTab.nil _ _
        clear hlv
        have HBQ:=qL (btr HBW.out HQ.out)
        have HSQ:=qL HQ.out.size
        have HXW:Hid (rVal w2 xA xN x.1):=qL (X3.out.later HB2.out)
        have HPL:=qL fun (y:List Val × Int) (hy:y∈lv)=>zhi HK.out.mat.pos HK.out.mat.val x.1 y (by rw [<-HLE.out];exact hy)
        have HPP:Hid (∀ j y,lv[j]?=some y->((ybh false ns os ps t u k j x lv).length:Int)+1<=yac (ybe false ns os ps t u)/\x.2*y.2<=yac (ybe false ns os ps t u)):=qL fun j y hy=>zgb HX.out (by have:=HJP.out rN;rwa [List.take_of_length_le (by have:=LT.out;omega)] at this) HLE.out hy
        have HL1:Hid (lv.length=0):=qL (HLR.out w5 HBQ.out fun _ _ _=>rfl).len
        go_wp2
        go_loopw [16,82] (fun v jv wx=> ∃ j:Nat,j<=0/\jv= .int .i64 j/\Below w2.heap.size w2 wx/\w5.heap.size<=wx.heap.size/\Hid (∀ b,wo.heap.size<=b->b<w5.heap.size->wx.heap[b]?=w5.heap[b]?)/\Hid (∀ y,v.ownBlock=some y->y<wo.heap.size∨w5.heap.size<=y)/\Hid (ownD (ybb w2.heap.size) wx w2.heap.size v (ybh false ns os ps t u k j x lv).length (ybh false ns os ps t u k j x lv))) (fun _ jv _=>0 - (intOf jv).toNat)
        case atStart=>exact ⟨0,by omega,rfl,HBQ.out,qV _,qL fun _ _ _=>rfl,qL fun y hy=> .inl (HV0.out y hy).2,qL (za2 (HO.out.later HQ.out) (by simp [ybh]))⟩
        case round=>
         clear hcc
         obtain ⟨j,hj,rfl,hbx,hsx,HSM,HNB,HOP⟩:=hrel
         obtain ⟨wx,rfl⟩: ∃ wx,wx=wr:=⟨_,rfl⟩
         have HBX:=qL hbx
         by_cases hjl:j<0
         ·exact absurd hjl qF
         ·obtain rfl:j=0:=by omega
          have eall:ybh false ns os ps t u k 0 x lv=ybe false ns os ps (t.take (k+1)) u:=by
           have htk:lv.take 0=lv:=List.take_of_length_le (by have:=HL1.out;omega)
           unfold ybh;rw [htk,HLE.out,<-zcx HX.out]
          have HOF:Hid (ownD (ybb w2.heap.size) wx w2.heap.size u16 (ybe false ns os ps (t.take (k+1)) u).length (ybe false ns os ps (t.take (k+1)) u)):=qL (za2 HOP.out eall.symm)
          clear eall
          go_wp2_with fail
          go_roundw
          case rel=>exact ⟨k+1,by omega,by go_num,HBX.out,HOF⟩
          case measure=>simp [intOf];omega
       ·obtain ⟨w6,hm1,hm2,hm3⟩:=HMK.out w5
        have HB6:Hid (Below w5.heap.size w5 w6):=qL (zcr hm3)
        have hR6:rVal w6 (some ⟨w5.heap.size,0,none⟩) iN (List.replicate ps.length zV):=by
         obtain ⟨A',c',e',hr,_⟩:=zgn hm2
         cases e'
         rw [LPS.out];exact hr
        obtain ⟨wq,hwq⟩: ∃ wq,wq=w6.alloc (.cells #[.slice (some ⟨w5.heap.size,0,none⟩) iN iN, .int .i64 1] 65):=⟨_,rfl⟩
        have hb56:=btr HQ.out HB6.out
        have HQ:Hid (Below wo.heap.size wo wq):=qL (by rw [hwq];exact hb56.alloc hb56.size _)
        have hb5q:Below w5.heap.size w5 wq:=by rw [hwq];exact HB6.out.alloc HB6.out.size _
        have q0:=qM hb5q q0
        have q1:=qM hb5q q1
        have HTF:Hid (rTabF wq wo.heap.size (some ⟨w6.heap.size,0,none⟩) 1 lv):=qL (by rw [hwq,HL0.out.2 rfl];exact zps (A:=some ⟨w5.heap.size,0,none⟩) (N:=iN) hR6 (fun _ a e=>by cases e;exact HB5.out.size) hb56.size)
        have HLR:Hid (∀ W,Below w2.heap.size w2 W->(∀ b,wo.heap.size<=b->b<wq.heap.size->W.heap[b]?=wq.heap[b]?)->rTab W (some ⟨w6.heap.size,0,none⟩) 1 lv):=qL fun W _ hs=>(HTF.out.other hs).tab
        clear hlv hm2 hm3 hR6 hb56 hb5q
        have HBQ:=qL (btr HBW.out HQ.out)
        have HSQ:=qL HQ.out.size
        have HXW:Hid (rVal w2 xA xN x.1):=qL (X3.out.later HB2.out)
        have HPL:=qL fun (y:List Val × Int) (hy:y∈lv)=>zhi HK.out.mat.pos HK.out.mat.val x.1 y (by rw [<-HLE.out];exact hy)
        have HPP:Hid (∀ j y,lv[j]?=some y->((ybh true ns os ps t u k j x lv).length:Int)+1<=yac (ybe true ns os ps t u)/\x.2*y.2<=yac (ybe true ns os ps t u)):=qL fun j y hy=>zgb HX.out (by have:=HJP.out rN;rwa [List.take_of_length_le (by have:=LT.out;omega)] at this) HLE.out hy
        have HL1:Hid (lv.length=1):=qL (HLR.out wq HBQ.out fun _ _ _=>rfl).len
        go_wp2
        rw [<-hwq]
        clear hm1 hwq
        go_loopw [16,82] (fun v jv wx=> ∃ j:Nat,j<=1/\jv= .int .i64 j/\Below w2.heap.size w2 wx/\wq.heap.size<=wx.heap.size/\Hid (∀ b,wo.heap.size<=b->b<wq.heap.size->wx.heap[b]?=wq.heap[b]?)/\Hid (∀ y,v.ownBlock=some y->y<wo.heap.size∨wq.heap.size<=y)/\Hid (ownD (ybb w2.heap.size) wx w2.heap.size v (ybh true ns os ps t u k j x lv).length (ybh true ns os ps t u k j x lv))) (fun _ jv _=>1 - (intOf jv).toNat)
        case atStart=>exact ⟨0,by omega,rfl,HBQ.out,qV _,qL fun _ _ _=>rfl,qL fun y hy=> .inl (HV0.out y hy).2,qL (za2 (HO.out.later HQ.out) (by simp [ybh]))⟩
        case round=>
         clear hcc
         obtain ⟨j,hj,rfl,hbx,hsx,HSM,HNB,HOP⟩:=hrel
         obtain ⟨wx,rfl⟩: ∃ wx,wx=wr:=⟨_,rfl⟩
         have HBX:=qL hbx
         by_cases hjl:j<1
         ·have HT3:=qL (HLR.out wx hbx HSM.out)
          obtain ⟨g3,o3,hg3,hc3⟩:=HT3.out.opn qF
          obtain ⟨y,hy⟩:=zah (l:=lv) (k:=j) (by have:=HL1.out;omega)
          obtain ⟨yA,yN,yC,y1,y2,y3⟩:=hc3 j y hy
          have Y3:=qL y3
          have HY:=qL hy
          have HYL:=HPL.out y (qP hy)
          have p0:wx.cell? ⟨wo.heap.size,0,none⟩=some (.slice xA xN xC):=zcs q0 (HSM.out _ (qV _) (qX _ _ q0))
          have p1:wx.cell? ⟨wo.heap.size,1,none⟩=some (.int .i64 x.2):=zcs q1 (HSM.out _ (qV _) (qX _ _ q1))
          have hyN:yN<=12:=by have:=y3.len;have:=HYL.2.1;have:=LPS.out;omega
          have hxp:=(HK.out.tab.2 x (qP HX.out))
          have HMP:Hid (0<x.2*y.2/\x.2*y.2<=4095):=qL ⟨Int.mul_pos hxp HYL.1,Int.le_trans (HPP.out j y hy).2 HSUM.out⟩
          have hlen1:(ybh true ns os ps t u k j x lv).length<4096:=by
           have h:=Int.le_trans (HPP.out j y hy).1 HSUM.out
           generalize (ybh true ns os ps t u k j x lv).length=z at h ⊢
           omega
          have hj4:j<=(ybh true ns os ps t u k j x lv).length:=by
           have:=HL1.out
           unfold ybh
           rw [List.length_append,List.length_map,List.length_take];omega
          have hjm:j<4096:=by omega
          clear hj4
          have HYL:=qL HYL
          obtain ⟨nL,hnL⟩: ∃ nL,nL=(ybh true ns os ps t u k j x lv).length:=⟨_,rfl⟩
          rw [<-hnL] at HOP hlen1
          have HNL:=qL hnL
          clear hnL
          obtain ⟨vA,vC,hv16,_⟩:=HOP.out.rd
          subst hv16
          have p2:(wx.alloc (.cells #[.slice yA yN yC, .int .i64 y.2] 65)).cell? ⟨wo.heap.size,0,none⟩=some (.slice xA xN xC):=qM (zae _ _) p0
          have p3:(wx.alloc (.cells #[.slice yA yN yC, .int .i64 y.2] 65)).cell? ⟨wo.heap.size,1,none⟩=some (.int .i64 x.2):=qM (zae _ _) p1
          have p4:(wx.alloc (.cells #[.slice yA yN yC, .int .i64 y.2] 65)).cell? ⟨wx.heap.size,0,none⟩=some (.slice yA yN yC):=by simp
          have p5:(wx.alloc (.cells #[.slice yA yN yC, .int .i64 y.2] 65)).cell? ⟨wx.heap.size,1,none⟩=some (.int .i64 y.2):=by simp
          clear p0 p1
          have iw:IntKind.i64.wrap (x.2*y.2)=x.2*y.2:=by
           have h:=HMP.out
           generalize x.2*y.2=z at h ⊢
           rw [IntKind.wrap_i64];omega
          have il: ¬ (65536<x.2*y.2):=by
           have h:=HMP.out
           generalize x.2*y.2=z at h ⊢
           omega
          have ild:decide (65536<x.2*y.2)=false:=decide_eq_false il
          have in1: ¬ ((nL:Int)=4096):=by omega
          have in2:((nL:Int)==4096)=false:=by simp;omega
          clear hc3 y3 hy hbx
          cases hg3
          simp only [Nat.zero_add] at y1 y2
          go_wp2_with fail
          have HA:Hid (Below w2.heap.size w2 (wx.alloc (.cells #[.slice yA yN yC, .int .i64 y.2] 65))):=qL (HBX.out.alloc HBX.out.size _)
          have d2:(wx.alloc (.cells #[.slice yA yN yC, .int .i64 y.2] 65)).drew.cell? ⟨wo.heap.size,0,none⟩=some (.slice xA xN xC):=p2
          have d3:(wx.alloc (.cells #[.slice yA yN yC, .int .i64 y.2] 65)).drew.cell? ⟨wo.heap.size,1,none⟩=some (.int .i64 x.2):=p3
          have d4:(wx.alloc (.cells #[.slice yA yN yC, .int .i64 y.2] 65)).drew.cell? ⟨wx.heap.size,0,none⟩=some (.slice yA yN yC):=p4
          have d5:(wx.alloc (.cells #[.slice yA yN yC, .int .i64 y.2] 65)).drew.cell? ⟨wx.heap.size,1,none⟩=some (.int .i64 y.2):=p5
          have HLT:Hid (∀ y,(Value.slice vA nL vC).ownBlock=some y->w2.heap.size<=y/\y<wx.heap.size):=qL HOP.out.lt
          have hne1:some wo.heap.size≠(Value.slice vA nL vC).ownBlock:=fun e=>by have:=HNB.out _ e.symm;have:=HQ.out.size;have:=qX _ _ q0;simp at this;omega
          have hne2:some wx.heap.size≠(Value.slice vA nL vC).ownBlock:=fun e=>by have:=(HLT.out _ e.symm).2;omega
          have HAZ:Hid (Below w2.heap.size w2 ((wx.alloc (.cells #[.slice yA yN yC, .int .i64 y.2] 65)).alloc (.cells #[.slice xA xN xC, .slice yA yN yC] 63))):=qL (HA.out.alloc HA.out.size _)
          have HTW:Hid (rD kRow ((wx.alloc (.cells #[.slice yA yN yC, .int .i64 y.2] 65)).alloc (.cells #[.slice xA xN xC, .slice yA yN yC] 63)).drew (some ⟨wx.heap.size+1,0,none⟩) 2 [x.1,y.1]):=qL (by
           have h:=zc8 (wx.alloc (.cells #[.slice yA yN yC, .int .i64 y.2] 65)) xA yA xN xC yN yC x.1 y.1 (HXW.out.later HA.out) (Y3.out.later (zae wx _))
           rw [show (wx.alloc (.cells #[.slice yA yN yC, .int .i64 y.2] 65)).heap.size=wx.heap.size+1 by simp] at h
           exact h)
          have H12:Hid (∀ r∈ [x.1,y.1],r.length<=12):=qL fun r hr=>by
           rcases qY hr with rfl|hr
           ·have:=HXW.out.len;omega
           ·rw [List.mem_singleton.1 hr];have:=Y3.out.len;omega
          have hk1:nL<1000000:=by omega
          clear p2 p3 p4 p5
          go_region_held3 (fun w'=>Below w2.heap.size w2 w'/\w'.cell? ⟨wo.heap.size,0,none⟩=some (.slice xA xN xC)/\w'.cell? ⟨wo.heap.size,1,none⟩=some (.int .i64 x.2)/\w'.cell? ⟨wx.heap.size,0,none⟩=some (.slice yA yN yC)/\w'.cell? ⟨wx.heap.size,1,none⟩=some (.int .i64 y.2))
           ((go_split_ands;refine ⟨?_,?_,?_,?_,?_⟩<;>(with_reducible first |exact HA.out.drew|exact HAZ.out.drew|exact d2|exact d3|exact d4|exact d5|(refine Below.alloc ?_ (Below.size qI) _;assumption)|exact qM (zae _ _) qI|(exact zaf qI qI (fun k e=>(HLT.out k e).1))|exact World.grownBy.cell qI qI hne1|exact World.grownBy.cell qI qI hne2|(refine btr ?_ qI;assumption)|exact qM qI qI)))
           (first
            |(go_at_call 212;go_split_ands;(with_reducible refine (zke _ 2 2 [x.1,y.1] _ HTW.out qF H12.out).mono ?_);rintro e w7 ⟨A1,c1',rfl,hrd1,hcc1,hb1,hfr1,hown1⟩;have HB7:=qL (btr (btr (zae wx (.cells #[.slice yA yN yC, .int .i64 y.2] 65)) (zae _ (.cells #[.slice xA xN xC, .slice yA yN yC] 63))) (zap hb1));have HF1:=qL (zb3 (n:=(yaj [x.1,y.1]).length) (w1:=wx) (fun k e=>(HLT.out k e).2) (fun a e=>qR (btr (zae wx (.cells #[.slice yA yN yC, .int .i64 y.2] 65)) (zae _ (.cells #[.slice xA xN xC, .slice yA yN yC] 63))).size (hfr1 a e).1));have HF2:Hid (∀ a,A1=some a->w2.heap.size<=a.block):=qL (fun a e=>qR HBX.out.size (qR (btr (zae wx (.cells #[.slice yA yN yC, .int .i64 y.2] 65)) (zae _ (.cells #[.slice xA xN xC, .slice yA yN yC] 63))).size (hfr1 a e).1));have HF3:=qL (HOP.out.later (HB7.out.alloc HB7.out.size (.cells #[.slice A1 (yaj [x.1,y.1]).length c1', .int .i64 (x.2*y.2)] 65)));have HF4:Hid (rVal (w7.alloc (.cells #[.slice A1 (yaj [x.1,y.1]).length c1', .int .i64 (x.2*y.2)] 65)) A1 (yaj [x.1,y.1]).length (x.1++y.1)):=qL (by have h:=zb4.1 (hrd1.later (zae _ (.cells #[.slice A1 (yaj [x.1,y.1]).length c1', .int .i64 (x.2*y.2)] 65)));rwa [show yaj [x.1,y.1]=x.1++y.1 from zf7 x.1 y.1] at h ⊢);have HS7:=qL (qR HBX.out.size (HB7.out.alloc HB7.out.size (.cells #[.slice A1 (yaj [x.1,y.1]).length c1', .int .i64 (x.2*y.2)] 65)).size))
            |((refine za3 _ qJ _ _ qJ PE HF3.out ⟨_,0,none⟩ ⟨A1,(yaj [x.1,y.1]).length,c1',x.2*y.2⟩ (x.1++y.1,x.2*y.2) qJ qJ (zan _ _ _ _ _ _) ⟨⟨HF4.out,rfl⟩,fun _ a e=>HF2.out a e⟩ HF1.out hk1 HS7.out ?_;intro v8 w8 hown8 hgrow hat)))
          go_split_ands
          have HBF:Hid (Below w2.heap.size w2 w8):=qL qI
          have HB7A:=qL (HB7.out.alloc HB7.out.size (.cells #[.slice A1 (yaj [x.1,y.1]).length c1', .int .i64 (x.2*y.2)] 65))
          have HSZ8:=qL (qR hsx (qR HB7A.out.size hgrow.size))
          have HSM8:Hid (∀ b,wo.heap.size<=b->b<wq.heap.size->w8.heap[b]?=wq.heap[b]?):=qL fun b h1 h2=>(hgrow.block b (by have:=HB7A.out.size;omega) (fun e=>by have:=HNB.out b e.symm;omega)).trans ((HB7A.out.block b qF).trans (HSM.out b h1 h2))
          have HNB8:Hid (∀ y,v8.ownBlock=some y->y<wo.heap.size∨wq.heap.size<=y):=qL fun y hy=>by
           rcases hat with e|e
           ·exact HNB.out y (e.symm.trans hy)
           ·rw [e] at hy;cases hy
            have:=HB7A.out.size
            exact .inr qF
          have HOF:=qL (za2 hown8 (zef (left:=true) (ns:=ns) (os:=os) (ps:=ps) (t:=t) (u:=u) (k:=k) (x:=x) HY.out))
          clear hown8 hgrow hat hown1 hrd1 hfr1 hb1
          go_wp2_with fail
          go_roundw
          case rel=>exact ⟨j+1,by omega,by go_num,HBF.out,HSZ8.out,HSM8,HNB8,HOF⟩
          case measure=>simp [intOf];omega
         ·obtain rfl:j=1:=by omega
          have eall:ybh true ns os ps t u k 1 x lv=ybe true ns os ps (t.take (k+1)) u:=by
           have htk:lv.take 1=lv:=List.take_of_length_le (by have:=HL1.out;omega)
           unfold ybh;rw [htk,HLE.out,<-zcx HX.out]
          have HOF:Hid (ownD (ybb w2.heap.size) wx w2.heap.size u16 (ybe true ns os ps (t.take (k+1)) u).length (ybe true ns os ps (t.take (k+1)) u)):=qL (za2 HOP.out eall.symm)
          clear eall
          go_wp2_with fail
          go_roundw
          case rel=>exact ⟨k+1,by omega,by go_num,HBX.out,HOF⟩
          case measure=>simp [intOf];omega
      ·have HZ:Hid (ycl ns os ps u x.1≠ []):=qL (by rw [HLK.out];intro e;have hh:(yff os ps (pkV ns x.1) u).length=lN:=HLV.out.len;rw [e] at hh;exact h0 hh.symm)
       obtain ⟨lv,hlv⟩: ∃ lv,lv=yit left ps.length (ycl ns os ps u x.1):=⟨_,rfl⟩
       have HLE:=qL hlv
       have HLR:Hid (∀ W,Below w2.heap.size w2 W->(∀ b,wo.heap.size<=b->b<w5.heap.size->W.heap[b]?=w5.heap[b]?)->rTab W lA lN lv):=qL fun W hb _=>by
        have hq:yit left ps.length (ycl ns os ps u x.1)=ycl ns os ps u x.1:=by
         have h:=HZ.out
         cases hc:ycl ns os ps u x.1 with
         |nil=>exact absurd hc h
         |cons _ _=>cases left<;>rfl
        rw [HLE.out,hq,HLK.out]
        exact HLV.out.later hb
       have HQ:=HB5
       have hz1:((lN:Int)==0)=false:=by simp;exact h0
       clear hlv
       have HBQ:=qL (btr HBW.out HQ.out)
       have HSQ:=qL HQ.out.size
       have HXW:Hid (rVal w2 xA xN x.1):=qL (X3.out.later HB2.out)
       have HPL:=qL fun (y:List Val × Int) (hy:y∈lv)=>zhi HK.out.mat.pos HK.out.mat.val x.1 y (by rw [<-HLE.out];exact hy)
       have HPP:Hid (∀ j y,lv[j]?=some y->((ybh left ns os ps t u k j x lv).length:Int)+1<=yac (ybe left ns os ps t u)/\x.2*y.2<=yac (ybe left ns os ps t u)):=qL fun j y hy=>zgb HX.out (by have:=HJP.out rN;rwa [List.take_of_length_le (by have:=LT.out;omega)] at this) HLE.out hy
       have HL1:Hid (lv.length=lN):=qL (HLR.out w5 HBQ.out fun _ _ _=>rfl).len
       go_wp2
       go_loopw [16,82] (fun v jv wx=> ∃ j:Nat,j<=lN/\jv= .int .i64 j/\Below w2.heap.size w2 wx/\w5.heap.size<=wx.heap.size/\Hid (∀ b,wo.heap.size<=b->b<w5.heap.size->wx.heap[b]?=w5.heap[b]?)/\Hid (∀ y,v.ownBlock=some y->y<wo.heap.size∨w5.heap.size<=y)/\Hid (ownD (ybb w2.heap.size) wx w2.heap.size v (ybh left ns os ps t u k j x lv).length (ybh left ns os ps t u k j x lv))) (fun _ jv _=>lN - (intOf jv).toNat)
       case atStart=>exact ⟨0,by omega,rfl,HBQ.out,qV _,qL fun _ _ _=>rfl,qL fun y hy=> .inl (HV0.out y hy).2,qL (za2 (HO.out.later HQ.out) (by simp [ybh]))⟩
       case round=>
        clear hlk hlc hcc h0 hz1
        obtain ⟨j,hj,rfl,hbx,hsx,HSM,HNB,HOP⟩:=hrel
        obtain ⟨wx,rfl⟩: ∃ wx,wx=wr:=⟨_,rfl⟩
        have HBX:=qL hbx
        by_cases hjl:j<lN
        ·have HT3:=qL (HLR.out wx hbx HSM.out)
         obtain ⟨g3,o3,hg3,hc3⟩:=HT3.out.opn qF
         obtain ⟨y,hy⟩:=zah (l:=lv) (k:=j) (by have:=HL1.out;omega)
         obtain ⟨yA,yN,yC,y1,y2,y3⟩:=hc3 j y hy
         have Y3:=qL y3
         have HY:=qL hy
         have HYL:=HPL.out y (qP hy)
         have p0:wx.cell? ⟨wo.heap.size,0,none⟩=some (.slice xA xN xC):=zcs q0 (HSM.out _ (qV _) (qX _ _ q0))
         have p1:wx.cell? ⟨wo.heap.size,1,none⟩=some (.int .i64 x.2):=zcs q1 (HSM.out _ (qV _) (qX _ _ q1))
         have hyN:yN<=12:=by have:=y3.len;have:=HYL.2.1;have:=LPS.out;omega
         have hxp:=(HK.out.tab.2 x (qP HX.out))
         have HMP:Hid (0<x.2*y.2/\x.2*y.2<=4095):=qL ⟨Int.mul_pos hxp HYL.1,Int.le_trans (HPP.out j y hy).2 HSUM.out⟩
         have hlen1:(ybh left ns os ps t u k j x lv).length<4096:=by
          have h:=Int.le_trans (HPP.out j y hy).1 HSUM.out
          generalize (ybh left ns os ps t u k j x lv).length=z at h ⊢
          omega
         have hj4:j<=(ybh left ns os ps t u k j x lv).length:=by
          have:=HL1.out
          unfold ybh
          rw [List.length_append,List.length_map,List.length_take];omega
         have hjm:j<4096:=by omega
         clear hj4
         have HYL:=qL HYL
         obtain ⟨nL,hnL⟩: ∃ nL,nL=(ybh left ns os ps t u k j x lv).length:=⟨_,rfl⟩
         rw [<-hnL] at HOP hlen1
         have HNL:=qL hnL
         clear hnL
         obtain ⟨vA,vC,hv16,_⟩:=HOP.out.rd
         subst hv16
         have p2:(wx.alloc (.cells #[.slice yA yN yC, .int .i64 y.2] 65)).cell? ⟨wo.heap.size,0,none⟩=some (.slice xA xN xC):=qM (zae _ _) p0
         have p3:(wx.alloc (.cells #[.slice yA yN yC, .int .i64 y.2] 65)).cell? ⟨wo.heap.size,1,none⟩=some (.int .i64 x.2):=qM (zae _ _) p1
         have p4:(wx.alloc (.cells #[.slice yA yN yC, .int .i64 y.2] 65)).cell? ⟨wx.heap.size,0,none⟩=some (.slice yA yN yC):=by simp
         have p5:(wx.alloc (.cells #[.slice yA yN yC, .int .i64 y.2] 65)).cell? ⟨wx.heap.size,1,none⟩=some (.int .i64 y.2):=by simp
         clear p0 p1
         have iw:IntKind.i64.wrap (x.2*y.2)=x.2*y.2:=by
          have h:=HMP.out
          generalize x.2*y.2=z at h ⊢
          rw [IntKind.wrap_i64];omega
         have il: ¬ (65536<x.2*y.2):=by
          have h:=HMP.out
          generalize x.2*y.2=z at h ⊢
          omega
         have ild:decide (65536<x.2*y.2)=false:=decide_eq_false il
         have in1: ¬ ((nL:Int)=4096):=by omega
         have in2:((nL:Int)==4096)=false:=by simp;omega
         clear hc3 y3 hy hbx
         subst hg3
         go_wp2_with fail
         have HA:Hid (Below w2.heap.size w2 (wx.alloc (.cells #[.slice yA yN yC, .int .i64 y.2] 65))):=qL (HBX.out.alloc HBX.out.size _)
         have d2:(wx.alloc (.cells #[.slice yA yN yC, .int .i64 y.2] 65)).drew.cell? ⟨wo.heap.size,0,none⟩=some (.slice xA xN xC):=p2
         have d3:(wx.alloc (.cells #[.slice yA yN yC, .int .i64 y.2] 65)).drew.cell? ⟨wo.heap.size,1,none⟩=some (.int .i64 x.2):=p3
         have d4:(wx.alloc (.cells #[.slice yA yN yC, .int .i64 y.2] 65)).drew.cell? ⟨wx.heap.size,0,none⟩=some (.slice yA yN yC):=p4
         have d5:(wx.alloc (.cells #[.slice yA yN yC, .int .i64 y.2] 65)).drew.cell? ⟨wx.heap.size,1,none⟩=some (.int .i64 y.2):=p5
         have HLT:Hid (∀ y,(Value.slice vA nL vC).ownBlock=some y->w2.heap.size<=y/\y<wx.heap.size):=qL HOP.out.lt
         have hne1:some wo.heap.size≠(Value.slice vA nL vC).ownBlock:=fun e=>by have:=HNB.out _ e.symm;have:=HQ.out.size;have:=qX _ _ q0;simp at this;omega
         have hne2:some wx.heap.size≠(Value.slice vA nL vC).ownBlock:=fun e=>by have:=(HLT.out _ e.symm).2;omega
         have HAZ:Hid (Below w2.heap.size w2 ((wx.alloc (.cells #[.slice yA yN yC, .int .i64 y.2] 65)).alloc (.cells #[.slice xA xN xC, .slice yA yN yC] 63))):=qL (HA.out.alloc HA.out.size _)
         have HTW:Hid (rD kRow ((wx.alloc (.cells #[.slice yA yN yC, .int .i64 y.2] 65)).alloc (.cells #[.slice xA xN xC, .slice yA yN yC] 63)).drew (some ⟨wx.heap.size+1,0,none⟩) 2 [x.1,y.1]):=qL (by
          have h:=zc8 (wx.alloc (.cells #[.slice yA yN yC, .int .i64 y.2] 65)) xA yA xN xC yN yC x.1 y.1 (HXW.out.later HA.out) (Y3.out.later (zae wx _))
          rw [show (wx.alloc (.cells #[.slice yA yN yC, .int .i64 y.2] 65)).heap.size=wx.heap.size+1 by simp] at h
          exact h)
         have H12:Hid (∀ r∈ [x.1,y.1],r.length<=12):=qL fun r hr=>by
          rcases qY hr with rfl|hr
          ·have:=HXW.out.len;omega
          ·rw [List.mem_singleton.1 hr];have:=Y3.out.len;omega
         have hk1:nL<1000000:=by omega
         clear p2 p3 p4 p5
         go_region_held3 (fun w'=>Below w2.heap.size w2 w'/\w'.cell? ⟨wo.heap.size,0,none⟩=some (.slice xA xN xC)/\w'.cell? ⟨wo.heap.size,1,none⟩=some (.int .i64 x.2)/\w'.cell? ⟨wx.heap.size,0,none⟩=some (.slice yA yN yC)/\w'.cell? ⟨wx.heap.size,1,none⟩=some (.int .i64 y.2))
          ((go_split_ands;refine ⟨?_,?_,?_,?_,?_⟩<;>(with_reducible first |exact HA.out.drew|exact HAZ.out.drew|exact d2|exact d3|exact d4|exact d5|(refine Below.alloc ?_ (Below.size qI) _;assumption)|exact qM (zae _ _) qI|(exact zaf qI qI (fun k e=>(HLT.out k e).1))|exact World.grownBy.cell qI qI hne1|exact World.grownBy.cell qI qI hne2|(refine btr ?_ qI;assumption)|exact qM qI qI)))
          (first
           |(go_at_call 212;go_split_ands;(with_reducible refine (zke _ 2 2 [x.1,y.1] _ HTW.out qF H12.out).mono ?_);rintro e w7 ⟨A1,c1',rfl,hrd1,hcc1,hb1,hfr1,hown1⟩;have HB7:=qL (btr (btr (zae wx (.cells #[.slice yA yN yC, .int .i64 y.2] 65)) (zae _ (.cells #[.slice xA xN xC, .slice yA yN yC] 63))) (zap hb1));have HF1:=qL (zb3 (n:=(yaj [x.1,y.1]).length) (w1:=wx) (fun k e=>(HLT.out k e).2) (fun a e=>qR (btr (zae wx (.cells #[.slice yA yN yC, .int .i64 y.2] 65)) (zae _ (.cells #[.slice xA xN xC, .slice yA yN yC] 63))).size (hfr1 a e).1));have HF2:Hid (∀ a,A1=some a->w2.heap.size<=a.block):=qL (fun a e=>qR HBX.out.size (qR (btr (zae wx (.cells #[.slice yA yN yC, .int .i64 y.2] 65)) (zae _ (.cells #[.slice xA xN xC, .slice yA yN yC] 63))).size (hfr1 a e).1));have HF3:=qL (HOP.out.later (HB7.out.alloc HB7.out.size (.cells #[.slice A1 (yaj [x.1,y.1]).length c1', .int .i64 (x.2*y.2)] 65)));have HF4:Hid (rVal (w7.alloc (.cells #[.slice A1 (yaj [x.1,y.1]).length c1', .int .i64 (x.2*y.2)] 65)) A1 (yaj [x.1,y.1]).length (x.1++y.1)):=qL (by have h:=zb4.1 (hrd1.later (zae _ (.cells #[.slice A1 (yaj [x.1,y.1]).length c1', .int .i64 (x.2*y.2)] 65)));rwa [show yaj [x.1,y.1]=x.1++y.1 from zf7 x.1 y.1] at h ⊢);have HS7:=qL (qR HBX.out.size (HB7.out.alloc HB7.out.size (.cells #[.slice A1 (yaj [x.1,y.1]).length c1', .int .i64 (x.2*y.2)] 65)).size))
           |((refine za3 _ qJ _ _ qJ PE HF3.out ⟨_,0,none⟩ ⟨A1,(yaj [x.1,y.1]).length,c1',x.2*y.2⟩ (x.1++y.1,x.2*y.2) qJ qJ (zan _ _ _ _ _ _) ⟨⟨HF4.out,rfl⟩,fun _ a e=>HF2.out a e⟩ HF1.out hk1 HS7.out ?_;intro v8 w8 hown8 hgrow hat)))
         go_split_ands
         have HBF:Hid (Below w2.heap.size w2 w8):=qL qI
         have HB7A:=qL (HB7.out.alloc HB7.out.size (.cells #[.slice A1 (yaj [x.1,y.1]).length c1', .int .i64 (x.2*y.2)] 65))
         have HSZ8:=qL (qR hsx (qR HB7A.out.size hgrow.size))
         have HSM8:Hid (∀ b,wo.heap.size<=b->b<w5.heap.size->w8.heap[b]?=w5.heap[b]?):=qL fun b h1 h2=>(hgrow.block b (by have:=HB7A.out.size;omega) (fun e=>by have:=HNB.out b e.symm;omega)).trans ((HB7A.out.block b qF).trans (HSM.out b h1 h2))
         have HNB8:Hid (∀ y,v8.ownBlock=some y->y<wo.heap.size∨w5.heap.size<=y):=qL fun y hy=>by
          rcases hat with e|e
          ·exact HNB.out y (e.symm.trans hy)
          ·rw [e] at hy;cases hy
           have:=HB7A.out.size
           exact .inr qF
         have HOF:=qL (za2 hown8 (zef (left:=left) (ns:=ns) (os:=os) (ps:=ps) (t:=t) (u:=u) (k:=k) (x:=x) HY.out))
         clear hown8 hgrow hat hown1 hrd1 hfr1 hb1
         go_wp2_with fail
         go_roundw
         case rel=>exact ⟨j+1,by omega,by go_num,HBF.out,HSZ8.out,HSM8,HNB8,HOF⟩
         case measure=>simp [intOf];omega
        ·obtain rfl:j=lN:=by omega
         have eall:ybh left ns os ps t u k j x lv=ybe left ns os ps (t.take (k+1)) u:=by
          have htk:lv.take j=lv:=List.take_of_length_le (by have:=HL1.out;omega)
          unfold ybh;rw [htk,HLE.out,<-zcx HX.out]
         have HOF:Hid (ownD (ybb w2.heap.size) wx w2.heap.size u16 (ybe left ns os ps (t.take (k+1)) u).length (ybe left ns os ps (t.take (k+1)) u)):=qL (za2 HOP.out eall.symm)
         clear eall
         go_wp2_with fail
         go_roundw
         case rel=>exact ⟨k+1,by omega,by go_num,HBX.out,HOF⟩
         case measure=>simp [intOf];omega
     ·have HNULL:=qL hnul
      rw [hnul] at HNU
      clear hnul
      have HZ:Hid (ycl ns os ps u x.1= []):=qL (by unfold ycl;rw [if_pos HNULL.out])
      go_wp2_with fail
      refine HNU.out.mono ?_
      rintro e w5 ⟨rfl,hb4⟩
      have HB5:=qL (btr HB3.out hb4)
      have HQ:=HB5
      have q0:=qM hb4 q0
      have q1:=qM hb4 q1
      clear hb4
      obtain ⟨lv,hlv⟩: ∃ lv,lv=yit left ps.length (ycl ns os ps u x.1):=⟨_,rfl⟩
      have HLE:=qL hlv
      have HL0:Hid ((left=false->lv= [])/\(left=true->lv= [(List.replicate ps.length zV,1)])):=qL (by rw [hlv,HZ.out];exact ⟨fun e=>by rw [e];rfl,fun e=>by rw [e];rfl⟩)
      cases left
      ·have HLR:Hid (∀ W,Below w2.heap.size w2 W->(∀ b,wo.heap.size<=b->b<w5.heap.size->W.heap[b]?=w5.heap[b]?)->rTab W none 0 lv):=qL fun W _ _=>by rw [HL0.out.1 rfl];exact rTab.nil _ _
       clear hlv
       have HBQ:=qL (btr HBW.out HQ.out)
       have HSQ:=qL HQ.out.size
       have HXW:Hid (rVal w2 xA xN x.1):=qL (X3.out.later HB2.out)
       have HPL:=qL fun (y:List Val × Int) (hy:y∈lv)=>zhi HK.out.mat.pos HK.out.mat.val x.1 y (by rw [<-HLE.out];exact hy)
       have HPP:Hid (∀ j y,lv[j]?=some y->((ybh false ns os ps t u k j x lv).length:Int)+1<=yac (ybe false ns os ps t u)/\x.2*y.2<=yac (ybe false ns os ps t u)):=qL fun j y hy=>zgb HX.out (by have:=HJP.out rN;rwa [List.take_of_length_le (by have:=LT.out;omega)] at this) HLE.out hy
       have HL1:Hid (lv.length=0):=qL (HLR.out w5 HBQ.out fun _ _ _=>rfl).len
       go_wp2
       go_loopw [16,82] (fun v jv wx=> ∃ j:Nat,j<=0/\jv= .int .i64 j/\Below w2.heap.size w2 wx/\w5.heap.size<=wx.heap.size/\Hid (∀ b,wo.heap.size<=b->b<w5.heap.size->wx.heap[b]?=w5.heap[b]?)/\Hid (∀ y,v.ownBlock=some y->y<wo.heap.size∨w5.heap.size<=y)/\Hid (ownD (ybb w2.heap.size) wx w2.heap.size v (ybh false ns os ps t u k j x lv).length (ybh false ns os ps t u k j x lv))) (fun _ jv _=>0 - (intOf jv).toNat)
       case atStart=>exact ⟨0,by omega,rfl,HBQ.out,qV _,qL fun _ _ _=>rfl,qL fun y hy=> .inl (HV0.out y hy).2,qL (za2 (HO.out.later HQ.out) (by simp [ybh]))⟩
       case round=>
        clear hcc
        obtain ⟨j,hj,rfl,hbx,hsx,HSM,HNB,HOP⟩:=hrel
        obtain ⟨wx,rfl⟩: ∃ wx,wx=wr:=⟨_,rfl⟩
        have HBX:=qL hbx
        by_cases hjl:j<0
        ·exact absurd hjl qF
        ·obtain rfl:j=0:=by omega
         have eall:ybh false ns os ps t u k 0 x lv=ybe false ns os ps (t.take (k+1)) u:=by
          have htk:lv.take 0=lv:=List.take_of_length_le (by have:=HL1.out;omega)
          unfold ybh;rw [htk,HLE.out,<-zcx HX.out]
         have HOF:Hid (ownD (ybb w2.heap.size) wx w2.heap.size u16 (ybe false ns os ps (t.take (k+1)) u).length (ybe false ns os ps (t.take (k+1)) u)):=qL (za2 HOP.out eall.symm)
         clear eall
         go_wp2_with fail
         go_roundw
         case rel=>exact ⟨k+1,by omega,by go_num,HBX.out,HOF⟩
         case measure=>simp [intOf];omega
      ·obtain ⟨w6,hm1,hm2,hm3⟩:=HMK.out w5
       have HB6:Hid (Below w5.heap.size w5 w6):=qL (zcr hm3)
       have hR6:rVal w6 (some ⟨w5.heap.size,0,none⟩) iN (List.replicate ps.length zV):=by
        obtain ⟨A',c',e',hr,_⟩:=zgn hm2
        cases e'
        rw [LPS.out];exact hr
       obtain ⟨wq,hwq⟩: ∃ wq,wq=w6.alloc (.cells #[.slice (some ⟨w5.heap.size,0,none⟩) iN iN, .int .i64 1] 65):=⟨_,rfl⟩
       have hb56:=btr HQ.out HB6.out
       have HQ:Hid (Below wo.heap.size wo wq):=qL (by rw [hwq];exact hb56.alloc hb56.size _)
       have hb5q:Below w5.heap.size w5 wq:=by rw [hwq];exact HB6.out.alloc HB6.out.size _
       have q0:=qM hb5q q0
       have q1:=qM hb5q q1
       have HTF:Hid (rTabF wq wo.heap.size (some ⟨w6.heap.size,0,none⟩) 1 lv):=qL (by rw [hwq,HL0.out.2 rfl];exact zps (A:=some ⟨w5.heap.size,0,none⟩) (N:=iN) hR6 (fun _ a e=>by cases e;exact HB5.out.size) hb56.size)
       have HLR:Hid (∀ W,Below w2.heap.size w2 W->(∀ b,wo.heap.size<=b->b<wq.heap.size->W.heap[b]?=wq.heap[b]?)->rTab W (some ⟨w6.heap.size,0,none⟩) 1 lv):=qL fun W _ hs=>(HTF.out.other hs).tab
       clear hlv hm2 hm3 hR6 hb56 hb5q
       have HBQ:=qL (btr HBW.out HQ.out)
       have HSQ:=qL HQ.out.size
       have HXW:Hid (rVal w2 xA xN x.1):=qL (X3.out.later HB2.out)
       have HPL:=qL fun (y:List Val × Int) (hy:y∈lv)=>zhi HK.out.mat.pos HK.out.mat.val x.1 y (by rw [<-HLE.out];exact hy)
       have HPP:Hid (∀ j y,lv[j]?=some y->((ybh true ns os ps t u k j x lv).length:Int)+1<=yac (ybe true ns os ps t u)/\x.2*y.2<=yac (ybe true ns os ps t u)):=qL fun j y hy=>zgb HX.out (by have:=HJP.out rN;rwa [List.take_of_length_le (by have:=LT.out;omega)] at this) HLE.out hy
       have HL1:Hid (lv.length=1):=qL (HLR.out wq HBQ.out fun _ _ _=>rfl).len
       go_wp2
       rw [<-hwq]
       clear hm1 hwq
       go_loopw [16,82] (fun v jv wx=> ∃ j:Nat,j<=1/\jv= .int .i64 j/\Below w2.heap.size w2 wx/\wq.heap.size<=wx.heap.size/\Hid (∀ b,wo.heap.size<=b->b<wq.heap.size->wx.heap[b]?=wq.heap[b]?)/\Hid (∀ y,v.ownBlock=some y->y<wo.heap.size∨wq.heap.size<=y)/\Hid (ownD (ybb w2.heap.size) wx w2.heap.size v (ybh true ns os ps t u k j x lv).length (ybh true ns os ps t u k j x lv))) (fun _ jv _=>1 - (intOf jv).toNat)
       case atStart=>exact ⟨0,by omega,rfl,HBQ.out,qV _,qL fun _ _ _=>rfl,qL fun y hy=> .inl (HV0.out y hy).2,qL (za2 (HO.out.later HQ.out) (by simp [ybh]))⟩
       case round=>
        clear hcc
        obtain ⟨j,hj,rfl,hbx,hsx,HSM,HNB,HOP⟩:=hrel
        obtain ⟨wx,rfl⟩: ∃ wx,wx=wr:=⟨_,rfl⟩
        have HBX:=qL hbx
        by_cases hjl:j<1
        ·have HT3:=qL (HLR.out wx hbx HSM.out)
         obtain ⟨g3,o3,hg3,hc3⟩:=HT3.out.opn qF
         obtain ⟨y,hy⟩:=zah (l:=lv) (k:=j) (by have:=HL1.out;omega)
         obtain ⟨yA,yN,yC,y1,y2,y3⟩:=hc3 j y hy
         have Y3:=qL y3
         have HY:=qL hy
         have HYL:=HPL.out y (qP hy)
         have p0:wx.cell? ⟨wo.heap.size,0,none⟩=some (.slice xA xN xC):=zcs q0 (HSM.out _ (qV _) (qX _ _ q0))
         have p1:wx.cell? ⟨wo.heap.size,1,none⟩=some (.int .i64 x.2):=zcs q1 (HSM.out _ (qV _) (qX _ _ q1))
         have hyN:yN<=12:=by have:=y3.len;have:=HYL.2.1;have:=LPS.out;omega
         have hxp:=(HK.out.tab.2 x (qP HX.out))
         have HMP:Hid (0<x.2*y.2/\x.2*y.2<=4095):=qL ⟨Int.mul_pos hxp HYL.1,Int.le_trans (HPP.out j y hy).2 HSUM.out⟩
         have hlen1:(ybh true ns os ps t u k j x lv).length<4096:=by
          have h:=Int.le_trans (HPP.out j y hy).1 HSUM.out
          generalize (ybh true ns os ps t u k j x lv).length=z at h ⊢
          omega
         have hj4:j<=(ybh true ns os ps t u k j x lv).length:=by
          have:=HL1.out
          unfold ybh
          rw [List.length_append,List.length_map,List.length_take];omega
         have hjm:j<4096:=by omega
         clear hj4
         have HYL:=qL HYL
         obtain ⟨nL,hnL⟩: ∃ nL,nL=(ybh true ns os ps t u k j x lv).length:=⟨_,rfl⟩
         rw [<-hnL] at HOP hlen1
         have HNL:=qL hnL
         clear hnL
         obtain ⟨vA,vC,hv16,_⟩:=HOP.out.rd
         subst hv16
         have p2:(wx.alloc (.cells #[.slice yA yN yC, .int .i64 y.2] 65)).cell? ⟨wo.heap.size,0,none⟩=some (.slice xA xN xC):=qM (zae _ _) p0
         have p3:(wx.alloc (.cells #[.slice yA yN yC, .int .i64 y.2] 65)).cell? ⟨wo.heap.size,1,none⟩=some (.int .i64 x.2):=qM (zae _ _) p1
         have p4:(wx.alloc (.cells #[.slice yA yN yC, .int .i64 y.2] 65)).cell? ⟨wx.heap.size,0,none⟩=some (.slice yA yN yC):=by simp
         have p5:(wx.alloc (.cells #[.slice yA yN yC, .int .i64 y.2] 65)).cell? ⟨wx.heap.size,1,none⟩=some (.int .i64 y.2):=by simp
         clear p0 p1
         have iw:IntKind.i64.wrap (x.2*y.2)=x.2*y.2:=by
          have h:=HMP.out
          generalize x.2*y.2=z at h ⊢
          rw [IntKind.wrap_i64];omega
         have il: ¬ (65536<x.2*y.2):=by
          have h:=HMP.out
          generalize x.2*y.2=z at h ⊢
          omega
         have ild:decide (65536<x.2*y.2)=false:=decide_eq_false il
         have in1: ¬ ((nL:Int)=4096):=by omega
         have in2:((nL:Int)==4096)=false:=by simp;omega
         clear hc3 y3 hy hbx
         cases hg3
         simp only [Nat.zero_add] at y1 y2
         go_wp2_with fail
         have HA:Hid (Below w2.heap.size w2 (wx.alloc (.cells #[.slice yA yN yC, .int .i64 y.2] 65))):=qL (HBX.out.alloc HBX.out.size _)
         have d2:(wx.alloc (.cells #[.slice yA yN yC, .int .i64 y.2] 65)).drew.cell? ⟨wo.heap.size,0,none⟩=some (.slice xA xN xC):=p2
         have d3:(wx.alloc (.cells #[.slice yA yN yC, .int .i64 y.2] 65)).drew.cell? ⟨wo.heap.size,1,none⟩=some (.int .i64 x.2):=p3
         have d4:(wx.alloc (.cells #[.slice yA yN yC, .int .i64 y.2] 65)).drew.cell? ⟨wx.heap.size,0,none⟩=some (.slice yA yN yC):=p4
         have d5:(wx.alloc (.cells #[.slice yA yN yC, .int .i64 y.2] 65)).drew.cell? ⟨wx.heap.size,1,none⟩=some (.int .i64 y.2):=p5
         have HLT:Hid (∀ y,(Value.slice vA nL vC).ownBlock=some y->w2.heap.size<=y/\y<wx.heap.size):=qL HOP.out.lt
         have hne1:some wo.heap.size≠(Value.slice vA nL vC).ownBlock:=fun e=>by have:=HNB.out _ e.symm;have:=HQ.out.size;have:=qX _ _ q0;simp at this;omega
         have hne2:some wx.heap.size≠(Value.slice vA nL vC).ownBlock:=fun e=>by have:=(HLT.out _ e.symm).2;omega
         have HAZ:Hid (Below w2.heap.size w2 ((wx.alloc (.cells #[.slice yA yN yC, .int .i64 y.2] 65)).alloc (.cells #[.slice xA xN xC, .slice yA yN yC] 63))):=qL (HA.out.alloc HA.out.size _)
         have HTW:Hid (rD kRow ((wx.alloc (.cells #[.slice yA yN yC, .int .i64 y.2] 65)).alloc (.cells #[.slice xA xN xC, .slice yA yN yC] 63)).drew (some ⟨wx.heap.size+1,0,none⟩) 2 [x.1,y.1]):=qL (by
          have h:=zc8 (wx.alloc (.cells #[.slice yA yN yC, .int .i64 y.2] 65)) xA yA xN xC yN yC x.1 y.1 (HXW.out.later HA.out) (Y3.out.later (zae wx _))
          rw [show (wx.alloc (.cells #[.slice yA yN yC, .int .i64 y.2] 65)).heap.size=wx.heap.size+1 by simp] at h
          exact h)
         have H12:Hid (∀ r∈ [x.1,y.1],r.length<=12):=qL fun r hr=>by
          rcases qY hr with rfl|hr
          ·have:=HXW.out.len;omega
          ·rw [List.mem_singleton.1 hr];have:=Y3.out.len;omega
         have hk1:nL<1000000:=by omega
         clear p2 p3 p4 p5
         go_region_held3 (fun w'=>Below w2.heap.size w2 w'/\w'.cell? ⟨wo.heap.size,0,none⟩=some (.slice xA xN xC)/\w'.cell? ⟨wo.heap.size,1,none⟩=some (.int .i64 x.2)/\w'.cell? ⟨wx.heap.size,0,none⟩=some (.slice yA yN yC)/\w'.cell? ⟨wx.heap.size,1,none⟩=some (.int .i64 y.2))
          ((go_split_ands;refine ⟨?_,?_,?_,?_,?_⟩<;>(with_reducible first |exact HA.out.drew|exact HAZ.out.drew|exact d2|exact d3|exact d4|exact d5|(refine Below.alloc ?_ (Below.size qI) _;assumption)|exact qM (zae _ _) qI|(exact zaf qI qI (fun k e=>(HLT.out k e).1))|exact World.grownBy.cell qI qI hne1|exact World.grownBy.cell qI qI hne2|(refine btr ?_ qI;assumption)|exact qM qI qI)))
          (first
           |(go_at_call 212;go_split_ands;(with_reducible refine (zke _ 2 2 [x.1,y.1] _ HTW.out qF H12.out).mono ?_);rintro e w7 ⟨A1,c1',rfl,hrd1,hcc1,hb1,hfr1,hown1⟩;have HB7:=qL (btr (btr (zae wx (.cells #[.slice yA yN yC, .int .i64 y.2] 65)) (zae _ (.cells #[.slice xA xN xC, .slice yA yN yC] 63))) (zap hb1));have HF1:=qL (zb3 (n:=(yaj [x.1,y.1]).length) (w1:=wx) (fun k e=>(HLT.out k e).2) (fun a e=>qR (btr (zae wx (.cells #[.slice yA yN yC, .int .i64 y.2] 65)) (zae _ (.cells #[.slice xA xN xC, .slice yA yN yC] 63))).size (hfr1 a e).1));have HF2:Hid (∀ a,A1=some a->w2.heap.size<=a.block):=qL (fun a e=>qR HBX.out.size (qR (btr (zae wx (.cells #[.slice yA yN yC, .int .i64 y.2] 65)) (zae _ (.cells #[.slice xA xN xC, .slice yA yN yC] 63))).size (hfr1 a e).1));have HF3:=qL (HOP.out.later (HB7.out.alloc HB7.out.size (.cells #[.slice A1 (yaj [x.1,y.1]).length c1', .int .i64 (x.2*y.2)] 65)));have HF4:Hid (rVal (w7.alloc (.cells #[.slice A1 (yaj [x.1,y.1]).length c1', .int .i64 (x.2*y.2)] 65)) A1 (yaj [x.1,y.1]).length (x.1++y.1)):=qL (by have h:=zb4.1 (hrd1.later (zae _ (.cells #[.slice A1 (yaj [x.1,y.1]).length c1', .int .i64 (x.2*y.2)] 65)));rwa [show yaj [x.1,y.1]=x.1++y.1 from zf7 x.1 y.1] at h ⊢);have HS7:=qL (qR HBX.out.size (HB7.out.alloc HB7.out.size (.cells #[.slice A1 (yaj [x.1,y.1]).length c1', .int .i64 (x.2*y.2)] 65)).size))
           |((refine za3 _ qJ _ _ qJ PE HF3.out ⟨_,0,none⟩ ⟨A1,(yaj [x.1,y.1]).length,c1',x.2*y.2⟩ (x.1++y.1,x.2*y.2) qJ qJ (zan _ _ _ _ _ _) ⟨⟨HF4.out,rfl⟩,fun _ a e=>HF2.out a e⟩ HF1.out hk1 HS7.out ?_;intro v8 w8 hown8 hgrow hat)))
         go_split_ands
         have HBF:Hid (Below w2.heap.size w2 w8):=qL qI
         have HB7A:=qL (HB7.out.alloc HB7.out.size (.cells #[.slice A1 (yaj [x.1,y.1]).length c1', .int .i64 (x.2*y.2)] 65))
         have HSZ8:=qL (qR hsx (qR HB7A.out.size hgrow.size))
         have HSM8:Hid (∀ b,wo.heap.size<=b->b<wq.heap.size->w8.heap[b]?=wq.heap[b]?):=qL fun b h1 h2=>(hgrow.block b (by have:=HB7A.out.size;omega) (fun e=>by have:=HNB.out b e.symm;omega)).trans ((HB7A.out.block b qF).trans (HSM.out b h1 h2))
         have HNB8:Hid (∀ y,v8.ownBlock=some y->y<wo.heap.size∨wq.heap.size<=y):=qL fun y hy=>by
          rcases hat with e|e
          ·exact HNB.out y (e.symm.trans hy)
          ·rw [e] at hy;cases hy
           have:=HB7A.out.size
           exact .inr qF
         have HOF:=qL (za2 hown8 (zef (left:=true) (ns:=ns) (os:=os) (ps:=ps) (t:=t) (u:=u) (k:=k) (x:=x) HY.out))
         clear hown8 hgrow hat hown1 hrd1 hfr1 hb1
         go_wp2_with fail
         go_roundw
         case rel=>exact ⟨j+1,by omega,by go_num,HBF.out,HSZ8.out,HSM8,HNB8,HOF⟩
         case measure=>simp [intOf];omega
        ·obtain rfl:j=1:=by omega
         have eall:ybh true ns os ps t u k 1 x lv=ybe true ns os ps (t.take (k+1)) u:=by
          have htk:lv.take 1=lv:=List.take_of_length_le (by have:=HL1.out;omega)
          unfold ybh;rw [htk,HLE.out,<-zcx HX.out]
         have HOF:Hid (ownD (ybb w2.heap.size) wx w2.heap.size u16 (ybe true ns os ps (t.take (k+1)) u).length (ybe true ns os ps (t.take (k+1)) u)):=qL (za2 HOP.out eall.symm)
         clear eall
         go_wp2_with fail
         go_roundw
         case rel=>exact ⟨k+1,by omega,by go_num,HBX.out,HOF⟩
         case measure=>simp [intOf];omega
    ·obtain rfl:k=rN:=by omega
     have HTT:t.take k=t:=List.take_of_length_le (by have:=LT.out;omega)
     obtain ⟨A8,c8,rfl,hcc8,hrd8,hfr8⟩:=HO.out.rd
     have hrd9:rTab wo A8 (ybe left ns os ps (t.take k) u).length (ybe left ns os ps t u):=by
      have h:=rTabF.tab (show rTabF wo w2.heap.size A8 (ybe left ns os ps (t.take k) u).length (ybe left ns os ps (t.take k) u) from ⟨hrd8,fun _ a e=>(hfr8 a e).1⟩)
      rw [HTT] at h ⊢
      exact h
     have HJ:=zo7 (left:=left) (ns:=ns) (os:=os) (ps:=ps) (t:=t) (u:=u) (m:=12) (fun x hx=>⟨HK.out.tab.2 x hx,(HK.out.tab.1.2.2 x hx).2.2.2,by have:=HW.out x hx;have:=LI.out;have:=LPS.out;omega⟩) HK.out.mat.pos HK.out.mat.val
     have hle:(ybe left ns os ps (t.take k) u).length<=4096:=by
      rw [HTT]
      have h:=zgc fun y hy=>(HJ y hy).1
      have h2:=HSUM.out
      omega
     have H:=qL (yl3 A8 (ybe left ns os ps (t.take k) u).length c8 (ybe left ns os ps t u) wo hrd9 hle (fun y hy=>(HJ y hy).1) (Int.le_trans HSUM.out qF) (fun y hy=>(HJ y hy).2.1) (fun y hy=>(HJ y hy).2.2))
     clear hrd8 hrd9 hfr8 HTT HJ hle
     go_wp2_with fail
     refine H.out.mono ?_
     rintro e w5 ⟨A9,n9,c9,rfl,hr9,hc9,hb9⟩
     have HR9:=qL hr9
     have HB9:=qL (btr HB2.out (btr HBW.out hb9))
     have HSZ:=qL (qR HB2.out.size HBW.out.size)
     clear hr9 hb9
     go_wp2
     go_ret2
     exact ⟨_,_,_,rfl,HR9.out.mono HSZ.out,hc9,HB9.out⟩
end
end Go.Proofs.YthcalfeoejdcgaaGreatDoor
