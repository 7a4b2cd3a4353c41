import Derived.Deep.Slices
import Derived.OpenShut
import Derived.LaidLaws
import Derived.ChangeArms
import Derived.Test.YthcalfeoejdcgaaGreatDoorRows
import Derived.Lib.LaidTab
import Derived.Deep.RegionHeld3
import Derived.Test.YthcalfeoejdcgaaGreatDoorK06
namespace Go.Proofs.YthcalfeoejdcgaaGreatDoor
set_option linter.unusedSimpArgs false
set_option linter.unusedVariables false
set_option maxRecDepth 100000
set_option maxHeartbeats 20000000
section
open Go.RowKit
structure Tbs (w:World):Prop where
 words: ∃ b o c,w.cell? ⟨4,0,none⟩=some (.slice (some ⟨b,o,none⟩) 8 c)/\8<=c/\c<=maxLen/\ ∀ j v,wrds[j]?=some v->w.cell? ⟨b,o+j,none⟩=some v
 syms: ∃ b o c,w.cell? ⟨0,0,none⟩=some (.slice (some ⟨b,o,none⟩) 18 c)/\18<=c/\c<=maxLen/\ ∀ j v,syms[j]?=some v->w.cell? ⟨b,o+j,none⟩=some v
 used: ∀ j v,usedc[j]?=some v->w.cell? ⟨2,j,none⟩=some v
theorem Tbs.later {w w':World}{B:Nat}(h:Tbs w)(hb:Below B w w')(hB:w.heap.size<=B):Tbs w':=by
 have c: ∀ {a:Addr} {v:Value},w.cell? a=some v->w'.cell? a=some v:=fun {a v} h=>by
  rw [hb.cell (qQ (qX _ _ h) hB)];exact h
 obtain ⟨⟨b,o,n,h1,h2,h3,h4⟩,⟨b',o',n',k1,k2,k3,k4⟩,hu⟩:=h
 exact ⟨⟨b,o,n,c h1,h2,h3,fun j v hv=>c (h4 j v hv)⟩,⟨b',o',n',c k1,k2,k3,fun j v hv=>c (k4 j v hv)⟩,fun j v hv=>c (hu j v hv)⟩
def D66 :Nat->Prop:=fun i=>i<66
theorem Tbs.sim {w:World}(h:Tbs w)(E:Ev): ∃ ρ,Sim E D66 ρ s0 w:=by
 obtain ⟨⟨b,o,n,h1,h2,h3,h4⟩,⟨b',o',n',k1,k2,k3,k4⟩,hu⟩:=h
 refine ⟨fun i=>if i=64 then ya8 b' o' 1 n' else if i=65 then ya8 b o 1 n else ya8 i 0 1 0,?_⟩
 have strs: ∀ {l:List Value} (D:Nat->Prop) (ρ:Nat->Pl),(∀ v∈l,ybx v=true)-> ∀ j v,l[j]?=some v->Rv E D ρ v v:=fun D ρ hl j v hv=> .flat v (hl v (qP hv))
 have each: ∀ i x,h0.get i=some x->D66 i/\x.wr=false/\Bd E D66 (fun i=>if i=64 then ya8 b' o' 1 n' else if i=65 then ya8 b o 1 n else ya8 i 0 1 0) w ((fun i=>if i=64 then (ya8 b' o' 1 n':Pl) else if i=65 then ya8 b o 1 n else ya8 i 0 1 0) i) x.wr x.body/\((fun i=>if i=64 then (ya8 b' o' 1 n':Pl) else if i=65 then ya8 b o 1 n else ya8 i 0 1 0) i).blk<w.heap.size:=fun i x hx=>by
  rw [zec] at hx
  by_cases e1:i=65
  ·rw [if_pos e1] at hx
   cases hx
   subst e1
   refine ⟨by show _<66;omega,rfl,⟨rfl,fun j v hv=>⟨v,h4 j v hv,strs _ _ (by decide) j v hv⟩⟩,qX _ _ (h4 0 _ rfl)⟩
  ·rw [if_neg e1] at hx
   by_cases e2:i=64
   ·rw [if_pos e2] at hx
    cases hx
    subst e2
    refine ⟨by show _<66;omega,rfl,⟨rfl,fun j v hv=>⟨v,k4 j v hv,strs _ _ (by decide) j v hv⟩⟩,qX _ _ (k4 0 _ rfl)⟩
   ·rw [if_neg e2] at hx
    by_cases e3:i=2
    ·rw [if_pos e3] at hx
     cases hx
     subst e3
     refine ⟨by show _<66;omega,rfl,⟨rfl,fun j v hv=>⟨v,?_,strs _ _ (by decide) j v hv⟩⟩,qX _ _ (hu 0 _ rfl)⟩
     have:=hu j v hv
     simpa using this
    ·rw [if_neg e3] at hx
     by_cases e4:i=4
     ·rw [if_pos e4] at hx
      cases hx
      subst e4
      refine ⟨by show _<66;omega,rfl,⟨rfl,fun j v hv=>?_⟩,qX _ _ h1⟩
      cases j with
      |zero=>
       simp at hv
       subst hv
       exact ⟨_,h1,Rv.slice (E:=E) (D:=D66) (ρ:=fun i=>if i=64 then ya8 b' o' 1 n' else if i=65 then ya8 b o 1 n else ya8 i 0 1 0) 65 0 8 8 n (by show 65<66;omega) qF h2 h3 (by show 0+n*1=n;omega)⟩
      |succ j=>simp at hv
     ·rw [if_neg e4] at hx
      by_cases e5:i=0
      ·rw [if_pos e5] at hx
       cases hx
       subst e5
       refine ⟨by show _<66;omega,rfl,⟨rfl,fun j v hv=>?_⟩,qX _ _ k1⟩
       cases j with
       |zero=>
        simp at hv
        subst hv
        exact ⟨_,k1,Rv.slice (E:=E) (D:=D66) (ρ:=fun i=>if i=64 then ya8 b' o' 1 n' else if i=65 then ya8 b o 1 n else ya8 i 0 1 0) 64 0 18 18 n' (by show 64<66;omega) qF k2 k3 (by show 0+n'*1=n';omega)⟩
       |succ j=>simp at hv
      ·rw [if_neg e5] at hx;cases hx
 refine ⟨fun i x hx=>(each i x hx).1,fun i hi=>hi,fun i x hx=>(each i x hx).2.2.1,fun i x hx=>(each i x hx).2.2.2,fun i j x y hx hy hne hwr=>?_,fun g hg=>?_,fun g hg=>?_,fun i k ob hk=>?_⟩
 ·rw [(each i x hx).2.1] at hwr;cases hwr
 ·show g<66
  have:g<64:=hg
  omega
 ·have hg:g<64:=hg
  show ((if g=64 then (ya8 b' o' 1 n':Pl) else if g=65 then ya8 b o 1 n else ya8 g 0 1 0):Pl).blk=g/\((if g=64 then (ya8 b' o' 1 n':Pl) else if g=65 then ya8 b o 1 n else ya8 g 0 1 0):Pl).off=0
  rw [if_neg qF,if_neg qF]
  exact ⟨rfl,rfl⟩
 ·exfalso
  by_cases e1:i=64
  ·simp [e1,ycu] at hk
  ·by_cases e2:i=65
   ·simp [e1,e2,ycu] at hk
   ·simp [e1,e2,ycu] at hk
theorem Ex.below {E:Ev}{D D1:Nat->Prop}{s s1:ASt}{ρ ρ1:Nat->Pl}{w w1:World}(h:Ex D s ρ w D1 s1 ρ1 w1)(hr: ∀ b x,s.heap.get b=some x->x.wr=false)(ht:s.tc= []):Below w.heap.size w w1:=
 ⟨h.os,h.tape,h.output,h.size,fun k hk=>h.frame k hk fun b hb o ho=>by
  have:=h.twr b o hb (by rw [ht];simp) ho
  rw [hr b o ho] at this;cases this⟩
theorem Yh1 (b:Nat)(x:AObj)(h:s0.heap.get b=some x):x.wr=false:=by
 have h:h0.get b=some x:=h
 rw [zec] at h
 repeat' split at h
 all_goals first |(cases h;rfl)|cases h
theorem yjy {x:Option (Value × ASt)}(h:isT x=true): ∃ s,x=some (.bool true,s):=by
 unfold isT at h
 split at h
 ·exact ⟨_,rfl⟩
 ·cases h
theorem yyu {w:World}(h:Tbs w):Calls Tryz.prog 13 #[] w fun e w'=>e= .returned (.bool true)/\Below w.heap.size w w':=by
 obtain ⟨ρ,hs⟩:=h.sim fun _ _ _=>False
 obtain ⟨s,hx⟩:=yjy Yhz
 refine (Ycn _ 1000 13 [] s0 _ _ hx D66 ρ w [] hs .nil).mono ?_
 rintro e w' ⟨v',ρ',D',rfl,h1,h2,h3⟩
 cases h1 with
 |flat=>exact ⟨rfl,h3.below (E:=fun _ _ _=>False) Yh1 rfl⟩
section
variable {P:Program}{w:World}{e t:TypeId}{fuel:Nat}{cs:List Value}
theorem Ydq (a:Addr):a.add 0=a:=by unfold Addr.add;simp
theorem zqh {l:List (List UInt8)}{p:List MemPlace}(ht:P.underlying t=some (.slice e))(he:P.underlying e=some .string)(hc:P.cellsOf e=1)(hl:0<l.length)
 (h:DataW.trod (fun _=>()) P w 0 (fun _=>true) false fuel t cs=some (.slice (l.map fun s=> .lit (.string s)) [],p)):
 ∃ b o c,cs= [.slice (some ⟨b,o,none⟩) l.length c]/\l.length<=c/\c<=maxLen/\ ∀ j v,(l.map yhj)[j]?=some v->w.cell? ⟨b,o+j,none⟩=some v:=by
 rcases Go.Deep.open_slice1 ht hc h with ⟨_,hx⟩|⟨a,len,cap,m,n,V,D,Pl,hcs,_,hlc,hcm,hm,hx,hV⟩
 ·cases hx
 ·have hd:=congrArg Prod.fst hx
  simp only [DataW.slice.injEq] at hd
  obtain ⟨hd,_⟩:=hd
  have hlen:l.length=len:=by have:=congrArg List.length hd;simpa using this
  have hmc:m=cap:=by simpa using hm
  have each: ∀ j s,l[j]?=some s->w.cell? (a.add j)=some (yhj s):=fun j s hj=>by
   have hjl:j<len:=by rw [<-hlen];exact (qO hj).1
   obtain ⟨h1,h2⟩:=hV j qF
   obtain ⟨u,h3,h4,_⟩:=DataW.trod_string he h2
   have h5:D j= .lit (.string s):=by
    have:=congrArg (·[j]?) hd
    simp [hj,hjl] at this
    exact this.symm
   have h6:D j= .lit (.string u.data.toList):=congrArg Prod.fst h4
   rw [h5] at h6
   injection h6 with h6
   injection h6 with h6
   injection h3 with h3 _
   rw [h1,h3,h6]
   rfl
  obtain ⟨s0,hs0⟩: ∃ s,l[0]?=some s:=⟨l[0],List.getElem?_eq_getElem hl⟩
  have h0:=each 0 s0 hs0
  rw [Ydq] at h0
  obtain ⟨b,off,spot⟩:=a
  have hspot:=World.cell?_spot h0
  have hspot:spot=none:=by simpa using hspot
  subst hspot
  refine ⟨b,off,cap,by rw [hlen];exact hcs,by omega,hcm,fun j v hv=>?_⟩
  rw [List.getElem?_map] at hv
  cases hj:l[j]? with
  |none=>rw [hj] at hv;cases hv
  |some s=>
   rw [hj] at hv
   cases hv
   have:=each j s hj
   unfold Addr.add at this
   split at this
   ·rename_i e0;subst e0;exact this
   ·exact this
theorem yjb {n:Nat}{fs:Array Field}{e2:TypeId}{l:List Bool}{p:List MemPlace}(ht:P.underlying t=some (.struct fs))(he:P.underlying e2=some .bool)(hc:P.cellsOf e2=1)(hct:P.cellsOf t=n)(hn:fs.size=n)(hf: ∀ (i:Nat) (f:Field),fs[i]?=some f->f.type=e2/\f.offset=i)
 (h:DataW.trod (fun _=>()) P w 0 (fun _=>true) false fuel t cs=some (.agg (l.map fun s=> .lit (.bool s)),p)):cs=l.map Value.bool/\l.length=n:=by
 obtain ⟨xs,m,_,hx,hl,hxl,hel⟩:=DataW.trod_struct ht h
 have hd:=congrArg Prod.fst hx
 simp only [DataW.agg.injEq] at hd
 have hln:l.length=n:=by have:=congrArg List.length hd;simp [hxl] at this;omega
 refine ⟨List.ext_getElem? fun i=>?_,hln⟩
 by_cases hi:i<n
 ·obtain ⟨f,hff⟩: ∃ f,fs[i]?=some f:=⟨fs[i],Array.getElem?_eq_getElem qF⟩
  obtain ⟨f1,f2⟩:=hf i f hff
  have h1:=hel i f hff
  rw [f1,f2,hc] at h1
  obtain ⟨x,hx2⟩: ∃ x,xs[i]?=some x:=⟨xs[i]'(by omega),List.getElem?_eq_getElem _⟩
  rw [hx2] at h1
  obtain ⟨b,h2,h3⟩:=DataW.trod_bool he h1
  have h4:=congrArg (·[i]?) hd
  simp only [List.getElem?_map,hx2,h3,Option.map_some] at h4
  obtain ⟨b',h5,h6⟩:=Option.map_eq_some_iff.1 h4
  injection h6 with h6
  injection h6 with h6
  have h7:=congrArg (·[0]?) h2
  simp [List.getElem?_take,List.getElem?_drop] at h7
  rw [h7,List.getElem?_map,h5,h6]
  rfl
 ·rw [List.getElem?_eq_none qF,List.getElem?_eq_none (by simp;omega)]
theorem yph {n k:Nat}{fs:Array Field}{e2:TypeId}{l:List (List Bool)}{p:List MemPlace}(ht:P.underlying t=some (.array n e))(he:P.underlying e=some (.struct fs))(hn:fs.size=k)(hf: ∀ (i:Nat) (f:Field),fs[i]?=some f->f.type=e2/\f.offset=i)(he2:P.underlying e2=some .bool)(hc:P.cellsOf e2=1)(hce:P.cellsOf e=k)(hct:P.cellsOf t=n*k)
 (h:DataW.trod (fun _=>()) P w 0 (fun _=>true) false fuel t cs=some (.agg (l.map fun r=> .agg (r.map fun s=> .lit (.bool s))),p)): ∀ i r,l[i]?=some r-> ∀ j b,r[j]?=some b->cs[i*k+j]?=some (.bool b):=by
 obtain ⟨xs,m,_,hx,hl,hxl,hel⟩:=DataW.trod_array ht h
 have hd:=congrArg Prod.fst hx
 simp only [DataW.agg.injEq] at hd
 intro i r hr j b hb
 have hln:l.length=n:=by have:=congrArg List.length hd;simpa [hxl] using this
 have hi:i<n:=by rw [<-hln];exact (qO hr).1
 have h1:=hel i hi
 rw [hce] at h1
 obtain ⟨x,hx2⟩: ∃ x,xs[i]?=some x:=⟨xs[i],List.getElem?_eq_getElem _⟩
 rw [hx2] at h1
 have h4:=congrArg (·[i]?) hd
 simp only [List.getElem?_map,hr,hx2,Option.map_some,Option.some.injEq] at h4
 obtain ⟨x1,x2⟩:=x
 simp only at h4
 subst h4
 obtain ⟨h5,h6⟩:=yjb he he2 hc hce hn hf h1
 have hj:j<k:=by rw [<-h6];exact (qO hb).1
 have h7:=congrArg (·[j]?) h5
 simp only [List.getElem?_take,if_pos hj,List.getElem?_drop,List.getElem?_map,hb,Option.map_some] at h7
 exact h7
end
def yyh : Array Field := #[{ name := "source", type := 4, offset := 0, embedded := false, tag := "", pkgPath := "warehouse/query", byteOffset := 0 }, { name := "names", type := 4, offset := 1, embedded := false, tag := "", pkgPath := "warehouse/query", byteOffset := 1 }, { name := "others", type := 4, offset := 2, embedded := false, tag := "", pkgPath := "warehouse/query", byteOffset := 2 }, { name := "items", type := 4, offset := 3, embedded := false, tag := "", pkgPath := "warehouse/query", byteOffset := 3 }, { name := "cond", type := 4, offset := 4, embedded := false, tag := "", pkgPath := "warehouse/query", byteOffset := 4 }]
theorem yjs : ∀ (i:Nat) (f:Field),yyh[i]?=some f->f.type=4/\f.offset=i:=fun i f h=>by
 have hi:i<5:=(Array.getElem?_eq_some_iff.1 h).1
 rcases i with _|_|_|_|_|i<;>first |(cases h;exact ⟨rfl,rfl⟩)|omega
def Yci :List (List Bool):= [[true,false,false,false,false],[false,false,false,false,true],[false,false,false,true,false],[false,true,false,false,false],[true,true,true,true,false],[true,true,true,true,false],[true,true,true,false,false],[true,true,true,false,false],[true,false,false,false,false],[true,false,false,false,false],[false,false,false,false,false],[false,true,false,true,false],[false,true,true,true,false]]
def Yi3 :List (List UInt8):= [[97,110,100],[111,114],[110,111,116],[110,117,108,108],[116,114,117,101],[102,97,108,115,101],[98,121],[115,101,108,102]]
def Yh5 :List (List UInt8):= [[43,43],[60,61],[62,61],[33,61],[40],[41],[44],[59],[58],[124],[61],[43],[45],[42],[47],[37],[60],[62]]
theorem yls : ∀ i,i<13-> ∀ j,j<5->usedc[i*5+j]?=((Yci[i]?).bind fun r=>(r[j]?).map Value.bool):=by
 intro i hi j hj
 have h1:i=0∨i=1∨i=2∨i=3∨i=4∨i=5∨i=6∨i=7∨i=8∨i=9∨i=10∨i=11∨i=12:=by omega
 have h2:j=0∨j=1∨j=2∨j=3∨j=4:=by omega
 rcases h1 with rfl|rfl|rfl|rfl|rfl|rfl|rfl|rfl|rfl|rfl|rfl|rfl|rfl<;>rcases h2 with rfl|rfl|rfl|rfl|rfl<;>rfl
theorem yzt {W : World}(h : laidMetH Tryz.prog [("warehouse/civil.lengths", Rows.laid_warehouse_civil_lengths), ("warehouse/token.words", Rows.laid_warehouse_token_words), ("warehouse/token.symbols", Rows.laid_warehouse_token_symbols), ("warehouse/query.used", Rows.laid_warehouse_query_used)] W) : Tbs W := by
 have h : laidMet Tryz.prog [("warehouse/civil.lengths", Rows.laid_warehouse_civil_lengths), ("warehouse/token.words", Rows.laid_warehouse_token_words), ("warehouse/token.symbols", Rows.laid_warehouse_token_symbols), ("warehouse/query.used", Rows.laid_warehouse_query_used)] W := h
 obtain ⟨ps,⟨g1,t1,cs1,f1,p1,q1,_,_,_,_,⟨g2,t2,cs2,f2,p2,q2,hg2,ht2,hv2,hd2,⟨g3,t3,cs3,f3,p3,q3,hg3,ht3,hv3,hd3,⟨g4,t4,cs4,f4,p4,q4,hg4,ht4,hv4,hd4,_⟩,_⟩,_⟩,_⟩,_⟩:=h
 have n2 : Tryz.prog.globalNamed "warehouse/token.words" = some 4 := by kernel_rfl
 have n3 : Tryz.prog.globalNamed "warehouse/token.symbols" = some 0 := by kernel_rfl
 have n4 : Tryz.prog.globalNamed "warehouse/query.used" = some 2 := by kernel_rfl
 have y2:(Tryz.prog.globals[4]?).map (·.type)=some 42:=by kernel_rfl
 have y3:(Tryz.prog.globals[0]?).map (·.type)=some 42:=by kernel_rfl
 have y4:(Tryz.prog.globals[2]?).map (·.type)=some 244:=by kernel_rfl
 obtain rfl:=Option.some.inj (n2.symm.trans hg2)
 obtain rfl:=Option.some.inj (n3.symm.trans hg3)
 obtain rfl:=Option.some.inj (n4.symm.trans hg4)
 obtain rfl:=Option.some.inj (y2.symm.trans ht2)
 obtain rfl:=Option.some.inj (y3.symm.trans ht3)
 obtain rfl:=Option.some.inj (y4.symm.trans ht4)
 have c9:Tryz.prog.cellsOf 9=1:=by kernel_rfl
 have one: ∀ {cs:Array Value} {v:Value},cs.toList= [v]->cs[0]?=some v:=fun {cs v} h=>by
  obtain ⟨l⟩:=cs
  have h:l= [v]:=h
  subst h;rfl
 obtain ⟨b2,o2,k2,e2,l2,m2,z2⟩:=zqh (l:=Yi3) Tryz.underlying42 Tryz.underlying9 c9 (by decide) hd2
 obtain ⟨b3,o3,k3,e3,l3,m3,z3⟩:=zqh (l:=Yh5) Tryz.underlying42 Tryz.underlying9 c9 (by decide) hd3
 have r4:=yph (l:=Yci) (k:=5) (n:=13) (fs:=yyh) (e2:=4) (t:=244) (e:=243) tyo244.und tyo243.und rfl yjs Tryz.underlying4 qG qG qG hd4
 refine ⟨⟨b2,o2,k2,?_,l2,m2,z2⟩,⟨b3,o3,k3,?_,l3,m3,z3⟩,fun j v hv=>?_⟩
 ·rw [World.var?_cell n2 hv2 0];exact one e2
 ·rw [World.var?_cell n3 hv3 0];exact one e3
 ·rw [World.var?_cell n4 hv4 j]
  have hj:j<65:=(qO hv).1
  have e:j=(j / 5)*5+j % 5:=by omega
  rw [e,yls (j / 5) qF (j % 5) qF] at hv
  obtain ⟨r,hr,hv⟩:=Option.bind_eq_some_iff.1 hv
  obtain ⟨b,hb,rfl⟩:=Option.map_eq_some_iff.1 hv
  have:=r4 (j / 5) r hr (j % 5) b hb
  rw [<-e] at this
  simpa using this
theorem lit3 (w:World)(t:TypeId)(x y z:Int):rInt (w.alloc (.cells #[.int .i64 x, .int .i64 y, .int .i64 z] t)) (some ⟨w.heap.size,0,none⟩) 3 [x,y,z]:=
 za7 rfl (fun j u h=>by
  have hj:j<3:=by have:=(qO h).1;simpa [flat,yaw] using this
  match j,hj with
  |0,_=>simp [flat,yaw] at h;subst h;simp
  |1,_=>simp [flat,yaw] at h;subst h;simp
  |2,_=>simp [flat,yaw] at h;subst h;simp)
theorem zaa {W:World}{cs:Array Value}{t b j:Nat}{u:Value}(h:b=W.heap.size)(hu:cs[j]?=some u):(W.alloc (.cells cs t)).cell? ⟨b,j,none⟩=some u:=by
 subst h
 simpa using hu
theorem or3E (b off c:Nat)(x0 x1 x2:Int)(w:World)(h0:w.cell? ⟨b,off,none⟩=some (.int .i64 x0))(h1:w.cell? ⟨b,off+1,none⟩=some (.int .i64 x1))(h2:w.cell? ⟨b,off+2,none⟩=some (.int .i64 x2)):
 Calls Tryz.prog 97 #[.slice (some ⟨b,off,none⟩) 3 c] w fun e w'=>e= .returned (.int .i64 (orV [x0,x1,x2]))/\w=w':=
 (orE _ _ _ [x0,x1,x2] _ (za7 rfl (fun j u h=>by
  have hj:j<3:=by have:=(qO h).1;simpa [flat,yaw] using this
  match j,hj with
  |0,_=>simp [flat,yaw] at h;subst h;simpa using h0
  |1,_=>simp [flat,yaw] at h;subst h;simpa using h1
  |2,_=>simp [flat,yaw] at h;subst h;simpa using h2)) qF).mono fun _ _ ⟨a,b⟩=>⟨a,b.symm⟩
theorem cmpE' (a b:Int)(w:World):Calls Tryz.prog 98 #[.int .i64 a, .int .i64 b] w fun e w'=>e= .returned (.int .i64 (Lib.compareInt a b))/\w=w':=(cmpE a b w).mono fun _ _ ⟨a,b⟩=>⟨a,b.symm⟩
theorem strE' (a b:ByteArray)(w:World):Calls Tryz.prog 99 #[.string a, .string b] w fun e w'=>e= .returned (.int .i64 (Lib.compareBytes a.toList b.toList))/\w=w':=(strE a b w).mono fun _ _ ⟨a,b⟩=>⟨a,b.symm⟩
theorem zpt (a b:Val):orV [Lib.compareInt a.k b.k,Lib.compareInt a.m b.m,Lib.compareBytes a.s.toList b.s.toList]=ya0 a b:=by
 unfold orV ya0
 split
 ·unfold orV
  split
  ·unfold orV
   split
   ·rename_i h;rw [h];rfl
   ·rfl
  ·rfl
 ·rfl
theorem yjj (k1 m1:Int)(s1:ByteArray)(k2 m2:Int)(s2:ByteArray)(w:World):
 Calls Tryz.prog 71 #[.agg #[.int .i64 k1, .int .i64 m1, .string s1], .agg #[.int .i64 k2, .int .i64 m2, .string s2]] w
  fun e w'=>e= .returned (.int .i64 (ya0 ⟨k1,m1,s1⟩ ⟨k2,m2,s2⟩))/\Below w.heap.size w w':=by
 go_enter Tryz.func71,Tryz.ntmps71
 go_wp2_with fail
 go_region_held3 (fun w'=>Below w.heap.size w w'
  /\w'.cell? ⟨w.heap.size,0,none⟩=some (.int .i64 k1)/\w'.cell? ⟨w.heap.size,1,none⟩=some (.int .i64 m1)/\w'.cell? ⟨w.heap.size,2,none⟩=some (.string s1)
  /\w'.cell? ⟨w.heap.size+1,0,none⟩=some (.int .i64 k2)/\w'.cell? ⟨w.heap.size+1,1,none⟩=some (.int .i64 m2)/\w'.cell? ⟨w.heap.size+1,2,none⟩=some (.string s2))
  (first
   |(go_keep;done)
   |(go_split_ands;refine ⟨?_,?_,?_,?_,?_,?_,?_⟩<;>(first |(go_keep;done)|exact qM qI qI|exact yrd qI (qV _) qI|(repeat (first |exact Below.refl _ _|assumption|refine Below.drew ?_|refine Below.alloc ?_ (by first |(simp;done)|(simp;omega)|exact Below.size qI) _)))))
  (first
   |(go_at_call 98;refine (cmpE' _ _ _).mono ?_;rintro e w' ⟨rfl,rfl⟩)
   |(go_at_call 99;refine (strE' _ _ _).mono ?_;rintro e w' ⟨rfl,rfl⟩)
   |(go_at_call 97;go_split_ands;refine (or3E _ _ _ (Lib.compareInt k1 k2) (Lib.compareInt m1 m2) (Lib.compareBytes s1.toList s2.toList) _ ?_ ?_ ?_).mono ?_<;>(first |exact zaa qH qH|rintro e w' ⟨rfl,rfl⟩)))
 go_split_ands
 have HB:Hid (Below w.heap.size w _):=qL qI
 go_wp2
 go_ret
 exact ⟨zak (zpt ⟨k1,m1,s1⟩ ⟨k2,m2,s2⟩),by assumption⟩
theorem zm1 (k m:Int)(s:ByteArray)(w:World):
 Calls Tryz.prog 128 #[.agg #[.int .i64 k, .int .i64 m, .string s]] w fun e w'=>e= .returned (.bool (yab ⟨k,m,s⟩))/\Below w.heap.size w w':=by
 have qe:=zne
 have hB: ∀ o,Below w.heap.size w (w.alloc o):=fun o=>(Below.refl _ w).alloc (qV _) o
 by_cases k0:k=0
 ·subst k0
  go_enter Tryz.func128,Tryz.ntmps128
  go_wp2
  go_ret
  exact ⟨zal (by simp [yab]),hB _⟩
 by_cases k1:k=1
 ·subst k1
  go_enter Tryz.func128,Tryz.ntmps128
  cases hs:s.toList.isEmpty<;>cases h0:(m==0)<;>cases h1:(m==1)<;>(go_wp2;go_ret;exact ⟨zal (by simp [yab,hs,h0,h1];try omega),hB _⟩)
 by_cases k2:k=2
 ·subst k2
  go_enter Tryz.func128,Tryz.ntmps128
  cases hs:s.toList.isEmpty<;>cases h0:decide (-1073741824<=m)<;>cases h1:decide (m<=1073741824)<;>(go_wp2;go_ret;exact ⟨zal (by simp [yab,hs,h0,h1];try omega),hB _⟩)
 by_cases k3:k=3
 ·subst k3
  go_enter Tryz.func128,Tryz.ntmps128
  cases h0:(m==0)<;>by_cases h1:64<s.size<;>(go_wp2;go_ret;exact ⟨zal (by simp [yab,h0,h1];try omega),hB _⟩)
 by_cases k4:k=4
 ·subst k4
  go_enter Tryz.func128,Tryz.ntmps128
  cases hs:s.toList.isEmpty<;>cases h0:decide (0<=m)<;>cases h1:decide (m<=575999999)<;>(go_wp2;go_ret;exact ⟨zal (by simp [yab,hs,h0,h1];try omega),hB _⟩)
 have e0:(k==0)=false:=by simp;exact k0
 have e1:(k==1)=false:=by simp;exact k1
 have e2:(k==2)=false:=by simp;exact k2
 have e3:(k==3)=false:=by simp;exact k3
 have e4:(k==4)=false:=by simp;exact k4
 have HV:Hid (false=yab ⟨k,m,s⟩):=qL (by simp [yab,k0,k1,k2,k3,k4])
 clear k0 k1 k2 k3 k4
 go_enter Tryz.func128,Tryz.ntmps128
 go_wp2
 go_ret
 exact ⟨zal HV.out,hB _⟩
def Yho (x:List Val × Int):Prop:=x.1.length<=12/\ -65536<=x.2/\x.2<=65536/\ ∀ v∈x.1,yab v=true
def yy3 (t:Tab):Prop:=t.length<=4096/\Bag t/\ ∀ x∈t,Yho x
def ybi (t:Tab):Prop:=yy3 t/\ ∀ x∈t,0<x.2
def okRow (cs:List Col)(r:List Val):Prop:=r.length=cs.length/\ ∀ (j:Nat) (v:Val) (c:Col),r[j]?=some v->cs[j]?=some c->yab v=true/\((v.k=0/\c.nl=true)∨(v.k≠0/\v.k=c.k))
end
section
open Go.BigFrame Go.RowKit
theorem zk3 (a b:Int)(w:World):Calls Tryz.prog 88 #[.int .i64 a, .int .i64 b] w fun e w'=>e= .returned (.int .i64 (Lib.compareInt a b))/\w=w':=by
 rcases Int.lt_trichotomy a b with h|h|h
 ·go_enter Tryz.func88,Tryz.ntmps88
  go_wp2
  go_ret
  exact ⟨zak (by unfold Lib.compareInt;rw [if_pos h]),rfl⟩
 ·have h1:decide (a<b)=false:=by simp;omega
  have h2:decide (a>b)=false:=by simp;omega
  have HE:=qL h
  clear h
  go_enter Tryz.func88,Tryz.ntmps88
  go_wp2
  all_goals (go_ret;exact ⟨zak (by have:=HE.out;unfold Lib.compareInt;rw [if_neg qF,if_neg qF]),rfl⟩)
 ·go_enter Tryz.func88,Tryz.ntmps88
  go_wp2
  go_ret
  exact ⟨zak (by unfold Lib.compareInt;rw [if_neg qF,if_pos qF]),rfl⟩
theorem Yee (k1 m1:Int)(s1:ByteArray)(k2 m2:Int)(s2:ByteArray)(w:World):
 Calls Tryz.prog 87 #[.agg #[.int .i64 k1, .int .i64 m1, .string s1], .agg #[.int .i64 k2, .int .i64 m2, .string s2]] w
  fun e w'=>e= .returned (.int .i64 (ya0 ⟨k1,m1,s1⟩ ⟨k2,m2,s2⟩))/\Below w.heap.size w w':=by
 have qg:=gtr9
 by_cases a0:Lib.compareInt k1 k2=0
 ·by_cases b0:Lib.compareInt m1 m2=0
  ·have e1:(Lib.compareInt k1 k2 !=0)=false:=by simp [a0]
   have e2:(Lib.compareInt m1 m2 !=0)=false:=by simp [b0]
   have hl:=zhy s1.toList s2.toList
   have hg:=zhy s2.toList s1.toList
   have hf:=zhx s1.toList s2.toList
   have h3:=zhz s1.toList s2.toList
   have HV:Hid (ya0 ⟨k1,m1,s1⟩ ⟨k2,m2,s2⟩=Lib.compareBytes s1.toList s2.toList):=qL (by unfold ya0;rw [if_pos a0,if_pos b0])
   clear a0 b0
   cases h1:Op.bytesLess s1.toList s2.toList
   ·cases h2:(s1.toList==s2.toList)
    ·have HE:Hid (1=Lib.compareBytes s1.toList s2.toList):=qL (by rw [h1] at hl;have hz:=zew s1.toList s2.toList;simp at hl h2;rcases h3 with h|h|h<;>(first |omega|exact absurd (hz.1 h) h2))
     clear hl hg hf h3
     go_enter Tryz.func87,Tryz.ntmps87
     go_wp2_with (go_at_call 88;refine (zk3 _ _ _).mono ?_;rintro e w' ⟨rfl,rfl⟩)
     go_ret
     exact ⟨zak (by rw [HV.out];exact HE.out),(by first |exact Below.refl _ _|exact zae _ _|exact (zae _ _).alloc qH _)⟩
    ·have HE:Hid (0=Lib.compareBytes s1.toList s2.toList):=qL (by have hz:=zew s1.toList s2.toList;simp at h2;exact (hz.2 h2).symm)
     clear hl hg hf h3
     go_enter Tryz.func87,Tryz.ntmps87
     go_wp2_with (go_at_call 88;refine (zk3 _ _ _).mono ?_;rintro e w' ⟨rfl,rfl⟩)
     go_ret
     exact ⟨zak (by rw [HV.out];exact HE.out),(by first |exact Below.refl _ _|exact zae _ _|exact (zae _ _).alloc qH _)⟩
   ·have HE:Hid (-1=Lib.compareBytes s1.toList s2.toList):=qL (by rw [h1] at hl;simp at hl hg;omega)
    clear hl hg hf h3
    go_enter Tryz.func87,Tryz.ntmps87
    go_wp2_with (go_at_call 88;refine (zk3 _ _ _).mono ?_;rintro e w' ⟨rfl,rfl⟩)
    go_ret
    exact ⟨zak (by rw [HV.out];exact HE.out),(by first |exact Below.refl _ _|exact zae _ _|exact (zae _ _).alloc qH _)⟩
  ·have e1:(Lib.compareInt k1 k2 !=0)=false:=by simp [a0]
   have e2:(Lib.compareInt m1 m2 !=0)=true:=by simp [b0]
   have HV:Hid (ya0 ⟨k1,m1,s1⟩ ⟨k2,m2,s2⟩=Lib.compareInt m1 m2):=qL (by unfold ya0;rw [if_pos a0,if_neg b0])
   clear a0 b0
   go_enter Tryz.func87,Tryz.ntmps87
   go_wp2_with (go_at_call 88;refine (zk3 _ _ _).mono ?_;rintro e w' ⟨rfl,rfl⟩)
   go_ret
   exact ⟨zak HV.out.symm,(by first |exact Below.refl _ _|exact zae _ _|exact (zae _ _).alloc qH _)⟩
 ·have e1:(Lib.compareInt k1 k2 !=0)=true:=by simp [a0]
  have HV:Hid (ya0 ⟨k1,m1,s1⟩ ⟨k2,m2,s2⟩=Lib.compareInt k1 k2):=qL (by unfold ya0;rw [if_neg a0])
  clear a0
  go_enter Tryz.func87,Tryz.ntmps87
  go_wp2_with (go_at_call 88;refine (zk3 _ _ _).mono ?_;rintro e w' ⟨rfl,rfl⟩)
  go_ret
  exact ⟨zak HV.out.symm,(by first |exact Below.refl _ _|exact zae _ _|exact (zae _ _).alloc qH _)⟩
theorem ymz (n:Int)(w:World)(h1: -65536<=n)(h2:n<=65536):Calls Tryz.prog 100 #[.int .i64 n] w fun e w'=>e= .returned (.bool true)/\w=w':=by
 go_enter Tryz.func100,Tryz.ntmps100
 go_wp2
 go_ret
 exact ⟨zal (by simp;try omega),rfl⟩
theorem zp5 (k m:Int)(s:ByteArray)(w:World):
 Calls Tryz.prog 77 #[.agg #[.int .i64 k, .int .i64 m, .string s]] w fun e w'=>e= .returned (.bool (yab ⟨k,m,s⟩))/\Below w.heap.size w w':=by
 have hB: ∀ o,Below w.heap.size w (w.alloc o):=fun o=>zae w o
 by_cases k0:k=0
 ·subst k0
  go_enter Tryz.func77,Tryz.ntmps77
  cases h0:(m==0)<;>cases hs:s.toList.isEmpty<;>(go_wp2;go_ret;exact ⟨zal (by simp [yab,hs,h0];try omega),hB _⟩)
 by_cases k1:k=1
 ·subst k1
  go_enter Tryz.func77,Tryz.ntmps77
  cases hs:s.toList.isEmpty<;>cases h0:(m==0)<;>cases h1:(m==1)<;>(go_wp2;go_ret;exact ⟨zal (by simp [yab,hs,h0,h1];try omega),hB _⟩)
 by_cases k2:k=2
 ·subst k2
  go_enter Tryz.func77,Tryz.ntmps77
  cases hs:s.toList.isEmpty<;>cases h0:decide (-1073741824<=m)<;>cases h1:decide (m<=1073741824)<;>(go_wp2;go_ret;exact ⟨zal (by simp [yab,hs,h0,h1];try omega),hB _⟩)
 by_cases k3:k=3
 ·subst k3
  go_enter Tryz.func77,Tryz.ntmps77
  cases h0:(m==0)<;>by_cases h1:s.size<=64<;>(go_wp2;go_ret;exact ⟨zal (by simp [yab,h0,h1];try omega),hB _⟩)
 by_cases k4:k=4
 ·subst k4
  go_enter Tryz.func77,Tryz.ntmps77
  cases hs:s.toList.isEmpty<;>cases h0:decide (0<=m)<;>cases h1:decide (m<=575999999)<;>(go_wp2;go_ret;exact ⟨zal (by simp [yab,hs,h0,h1];try omega),hB _⟩)
 have e0:(k==0)=false:=by simp;exact k0
 have e1:(k==1)=false:=by simp;exact k1
 have e2:(k==2)=false:=by simp;exact k2
 have e3:(k==3)=false:=by simp;exact k3
 have e4:(k==4)=false:=by simp;exact k4
 have HV:Hid (false=yab ⟨k,m,s⟩):=qL (by simp [yab,k0,k1,k2,k3,k4])
 clear k0 k1 k2 k3 k4
 go_enter Tryz.func77,Tryz.ntmps77
 go_wp2
 go_ret
 exact ⟨zal HV.out,hB _⟩
theorem zf1 : ∀ (k:Nat) (a b:List Val) (_: ∀ (j:Nat) x y,j<k->a[j]?=some x->b[j]?=some y->ya0 x y=0) (_:k<=a.length) (_:k<=b.length),yag a b=yag (a.drop k) (b.drop k)
 |0,_,_,_,_,_=>rfl
 |k+1,x::a,y::b,h,h1,h2=>by
  have h0:=h 0 x y qF rfl rfl
  rw [yag,if_pos h0,List.drop_succ_cons,List.drop_succ_cons]
  exact zf1 k a b (fun j u v hj hu hv=>h (j+1) u v qF (by simpa using hu) (by simpa using hv)) (by simpa using h1) (by simpa using h2)
theorem zkd {k:Nat}{a b:List Val}{x y:Val}(h: ∀ (j:Nat) x y,j<k->a[j]?=some x->b[j]?=some y->ya0 x y=0)(hx:a[k]?=some x)(hy:b[k]?=some y)(hne:ya0 x y≠0):yag a b=ya0 x y:=by
 have h1:=(qO hx).1
 have h2:=(qO hy).1
 rw [zf1 k a b h qF qF,List.drop_eq_getElem_cons h1,List.drop_eq_getElem_cons h2,(qO hx).2,(qO hy).2,yag,if_neg hne]
theorem zd6 {a b:List Val}(h: ∀ (j:Nat) x y,j<min a.length b.length->a[j]?=some x->b[j]?=some y->ya0 x y=0):yag a b=Lib.compareInt a.length b.length:=by
 rw [zf1 _ a b h (Nat.min_le_left ..) (Nat.min_le_right ..)]
 rcases Nat.lt_trichotomy a.length b.length with h1|h1|h1
 ·rw [Nat.min_eq_left qF,List.drop_length,List.drop_eq_getElem_cons h1]
  unfold Lib.compareInt yag
  rw [if_pos qF]
 ·rw [Nat.min_eq_left qF,List.drop_length,h1,List.drop_length]
  unfold Lib.compareInt yag
  rw [if_neg qF,if_neg qF]
 ·rw [Nat.min_eq_right qF,List.drop_length,List.drop_eq_getElem_cons h1]
  unfold Lib.compareInt yag
  rw [if_neg qF,if_pos qF]
def SameTo (a b:List Val)(k:Nat):Prop:= ∀ (j:Nat) x y,j<k->a[j]?=some x->b[j]?=some y->ya0 x y=0
theorem SameTo.succ {a b:List Val}{k:Nat}{x y:Val}(h:SameTo a b k)(hx:a[k]?=some x)(hy:b[k]?=some y)(h0:ya0 x y=0):SameTo a b (k+1):=by
 intro j u v hj hu hv
 rcases Nat.lt_or_ge j k with h1|h1
 ·exact h j u v h1 hu hv
 ·obtain rfl:j=k:=by omega
  rw [hx] at hu;rw [hy] at hv;cases hu;cases hv;exact h0
theorem yrm (x y:Val)(w:World):Calls Tryz.prog 87 #[.agg #[.int .i64 x.k, .int .i64 x.m, .string x.s], .agg #[.int .i64 y.k, .int .i64 y.m, .string y.s]] w
 fun e w'=>e= .returned (.int .i64 (ya0 x y))/\Below w.heap.size w w':=Yee x.k x.m x.s y.k y.m y.s w
theorem yrn (A:Option Addr)(n c:Nat)(A':Option Addr)(n' c':Nat)(a b:List Val)(w:World)(ha:rVal w A n a)(hb:rVal w A' n' b)(hn:n<=100000)(hn':n'<=100000):
 Calls Tryz.prog 60 #[.slice A n c, .slice A' n' c'] w fun e w'=>e= .returned (.int .i64 (yag a b))/\Below w.heap.size w w':=by
 have HA:=qL ha
 have HB:=qL hb
 have LA:=qL ha.len
 have LB:=qL hb.len
 clear ha hb
 go_enter Tryz.func60,Tryz.ntmps60
 go_wp2
 go_loopw [5] (fun i wr=> ∃ k:Nat,k<=n/\k<=n'/\i= .int .i64 k/\Below w.heap.size w wr/\Hid (SameTo a b k)) (fun i _=>n - (intOf i).toNat)
 case atStart=>exact ⟨0,by omega,by omega,rfl,za0 _,qL fun j _ _ hj=>absurd hj qF⟩
 case round=>
  obtain ⟨k,hk,hk',rfl,hbw,HS⟩:=hrel
  by_cases hin:k<n/\k<n'
  ·obtain ⟨h1,h2⟩:=hin
   have d1:decide (k<n)=true:=by simp [h1]
   have d2:decide (k<n')=true:=by simp [h2]
   obtain ⟨b1,o1,rfl,hc1⟩:=(HA.out.later hbw).opn qF
   obtain ⟨b2,o2,rfl,hc2⟩:=(HB.out.later hbw).opn qF
   obtain ⟨x,hx⟩:=zah (l:=a) (k:=k) (by have:=LA.out;omega)
   obtain ⟨y,hy⟩:=zah (l:=b) (k:=k) (by have:=LB.out;omega)
   obtain ⟨x1,x2,x3⟩:=hc1 k x hx
   obtain ⟨y1,y2,y3⟩:=hc2 k y hy
   have gx1:=Gro.cell x1
   have gx2:=Gro.cell x2
   have gx3:=Gro.cell x3
   have gy1:=Gro.cell y1
   have gy2:=Gro.cell y2
   have gy3:=Gro.cell y3
   have HX:=qL hx
   have HY:=qL hy
   clear hc1 hc2 x1 x2 x3 y1 y2 y3 hx hy
   cases hz:(ya0 x y !=0)
   ·have HZ:Hid (ya0 x y=0):=qL (by simpa using hz)
    go_wp2_with fail
    refine zai qG qG ?_;(repeat (go_big_quiet_step ((go_at_call 87;exact Calls.gro_of (yrm x y _)))));refine wpQuiet_nil ?_;intro _ hw';obtain ⟨pq,hw''⟩:=hw';subst hw''
    have hb2:=btr hbw pq.below
    clear gx1 gx2 gx3 gy1 gy2 gy3 d1 d2
    go_wp2
    go_roundw
    case rel=>exact ⟨k+1,by omega,by omega,by go_num,hb2,qL (HS.out.succ HX.out HY.out HZ.out)⟩
    case measure=>simp [intOf];omega
   ·have HZ:Hid (ya0 x y≠0):=qL (by simpa using hz)
    go_wp2_with fail
    refine zai qG qG ?_;(repeat (go_big_quiet_step ((go_at_call 87;exact Calls.gro_of (yrm x y _)))));refine wpQuiet_nil ?_;intro _ hw';obtain ⟨pq,hw''⟩:=hw';subst hw''
    have hb2:=btr hbw pq.below
    clear gx1 gx2 gx3 gy1 gy2 gy3 d1 d2
    go_wp2
    go_ret
    exact ⟨zak (zkd HS.out HX.out HY.out HZ.out).symm,hb2⟩
  ·have HE:Hid (Lib.compareInt n n'=yag a b):=qL (by
    have e1:=LA.out
    have e2:=LB.out
    rw [zd6 (fun j x y hj=>HS.out j x y qF),e1,e2])
   by_cases h1:k<n
   ·have d1:decide (k<n)=true:=by simp [h1]
    have d2:decide (k<n')=false:=by simp;omega
    go_wp2_with (go_at_call 88;refine (zk3 _ _ _).mono ?_;rintro e w' ⟨rfl,rfl⟩)
    go_ret
    exact ⟨zak HE.out,hbw⟩
   ·have d1:decide (k<n)=false:=by simp;omega
    go_wp2_with (go_at_call 88;refine (zk3 _ _ _).mono ?_;rintro e w' ⟨rfl,rfl⟩)
    go_ret
    exact ⟨zak HE.out,hbw⟩
theorem Yh2 (A:Option Addr)(n c:Nat)(A':Option Addr)(n' c':Nat)(a b:List Val)(w:World)(ha:rVal w A n a)(hb:rVal w A' n' b)(hn:n<=100000)(hn':n'<=100000):
 Calls Tryz.prog 37 #[.slice A n c, .slice A' n' c'] w fun e w'=>e= .returned (.bool (yag a b==0))/\Below w.heap.size w w':=by
 have H:=qL (yrn A n c A' n' c' a b w ha hb hn hn')
 clear ha hb
 go_enter Tryz.func37,Tryz.ntmps37
 go_wp2_with (go_at_call 60;refine (H.out).mono ?_;rintro e w' ⟨rfl,hb⟩)
 go_ret
 exact ⟨zal rfl,hb⟩
theorem zfj (x:Int)(k:Nat)(hk:k<=62):bits .and .i64 x ((2:Int) ^ k - 1)=x % 2 ^ k:=by
 have hp:(2:Nat) ^ k<2 ^ 63:=Nat.pow_lt_pow_right qF qF
 have hpos:0<(2:Nat) ^ k:=Nat.pow_pos qF
 have e1:((2:Int) ^ k - 1)=((2 ^ k - 1:Nat):Int):=by
  rw [Int.ofNat_sub qF];simp
 have e2:(BitVec.ofInt 64 ((2 ^ k - 1:Nat):Int)).toNat=2 ^ k - 1:=by
  rw [BitVec.ofInt_natCast,BitVec.toNat_ofNat];exact Nat.mod_eq_of_lt qF
 show IntKind.i64.wrap ((BitVec.ofInt 64 x&&& BitVec.ofInt 64 ((2:Int) ^ k - 1)).toNat:Int)=_
 rw [e1,BitVec.toNat_and,e2,Nat.and_two_pow_sub_one_eq_mod,BitVec.toNat_ofInt]
 have e3:((((x % ((2 ^ 64:Nat):Int)).toNat % 2 ^ k:Nat)):Int)=x % 2 ^ k:=by
  have hnn:0<=x % ((2 ^ 64:Nat):Int):=Int.emod_nonneg _ qH
  rw [Int.natCast_emod,Int.toNat_of_nonneg hnn]
  have hd:((2 ^ k:Nat):Int) ∣ ((2 ^ 64:Nat):Int):=Int.ofNat_dvd.2 (Nat.pow_dvd_pow 2 qF)
  rw [Int.emod_emod_of_dvd _ hd];simp
 rw [e3,IntKind.wrap_i64]
 have h0:0<=x % (2:Int) ^ k:=Int.emod_nonneg _ (by have:=Int.ofNat_lt.2 hpos;simp at this;omega)
 have h1:x % (2:Int) ^ k<2 ^ k:=Int.emod_lt_of_pos _ (by have:=Int.ofNat_lt.2 hpos;simpa using this)
 have h2:(2:Int) ^ k<9223372036854775808:=by
  have:=Int.ofNat_lt.2 hp
  simpa using this
 omega
theorem Ydv (x:Int):bits .and .i64 x 15=x % 16:=zfj x 4 qF
theorem zlq (x:Int):bits .and .i64 x 65535=x % 65536:=zfj x 16 qF
theorem yi6 (x:Int): ∃ q,bits .and .i64 x 65535=q/\0<=q/\q<=65535:=⟨_,rfl,by rw [zlq];omega,by rw [zlq];omega⟩
def AtR (w:World)(e:Ending)(w':World):Prop:= ∃ v:Int,e= .returned (.int .i64 v)/\0<=v/\v<=131070/\Below w.heap.size w w'
theorem yq9 {q n:Int}(h0:0<=q)(h1:q<=65535)(hn:0<n):0<=q / n/\q / n<=65535:=by
 refine ⟨Int.ediv_nonneg h0 qF,?_⟩
 exact Int.le_trans (Int.ediv_le_self _ h0) h1
theorem zbh (w:World)(n:Nat):Below w.heap.size w (w.drewN n):=za6 (Below.refl _ _) n
theorem atE (A:Option Addr)(n c:Nat)(l:List Int)(i:Int)(w:World)(h:rInt w A n l)(hn:n<=9223372036854775807):Calls Tryz.prog 25 #[.slice A n c, .int .i64 i] w (AtR w):=by
 obtain ⟨q,hq,hq0,hq1⟩:=yi6 i
 by_cases h0:n=0
 ·subst h0
  go_enter Tryz.func25,Tryz.ntmps25
  go_wp2
  go_ret
  exact ⟨q,by simp,hq0,by omega,za0 _⟩
 ·obtain ⟨b,off,rfl,hc⟩:=h.opn qF
  have hz:((n:Int)==0)=false:=by simp;omega
  have hr0:0<=q % (n:Int):=Int.emod_nonneg _ qF
  have hr1:q % (n:Int)<n:=Int.emod_lt_of_pos _ qF
  obtain ⟨x,hx⟩:=zah (l:=l) (k:=(q % (n:Int)).toNat) (by rw [h.len];omega)
  have hcx:=hc _ x hx
  obtain ⟨y,hy,hy0,hy1⟩:=yi6 x
  obtain ⟨hd0,hd1⟩:=yq9 hq0 hq1 (n:=(n:Int)) qF
  have t1:q.tmod (n:Int)=q % (n:Int):=Int.tmod_eq_emod_of_nonneg hq0
  have t2:q.tdiv (n:Int)=q / (n:Int):=Int.tdiv_eq_ediv_of_nonneg hq0
  have hw:wrap64 (q / (n:Int))=q / (n:Int):=by unfold wrap64;omega
  have hne: ¬ (n:Int)=0:=by omega
  clear hc hx h h0
  go_enter Tryz.func25,Tryz.ntmps25
  go_wp2
  go_quiet (fail)
  go_wp2
  go_ret
  exact ⟨y+q / n,by simp,by omega,by omega,zbh _ _⟩
def MomR (w:World)(e:Ending)(w':World):Prop:= ∃ m:Int,e= .returned (.int .i64 m)/\0<=m/\m<=575999999/\Below w.heap.size w w'
theorem six (f:Nat->Int)(q:Int)(hq:0<=q)(hf: ∀ j,j<6->0<=f j/\f j<=575999999): ∃ x:Int,[Value.int .i64 (f 0), .int .i64 (f 1), .int .i64 (f 2), .int .i64 (f 3), .int .i64 (f 4), .int .i64 (f 5)][(q % 6).toNat]?=some (.int .i64 x)/\0<=x/\x<=575999999:=by
 have h:(q % 6).toNat<6:=by omega
 generalize (q % 6).toNat=j at h
 have:=hf j h
 match j,h with
 |0,_=>exact ⟨_,rfl,this⟩
 |1,_=>exact ⟨_,rfl,this⟩
 |2,_=>exact ⟨_,rfl,this⟩
 |3,_=>exact ⟨_,rfl,this⟩
 |4,_=>exact ⟨_,rfl,this⟩
 |5,_=>exact ⟨_,rfl,this⟩
theorem yot (q:Int)(hq:0<=q): ∃ x:Int,[Value.int .i64 0, .int .i64 1, .int .i64 575999999, .int .i64 575999998, .int .i64 1439, .int .i64 1440][(q % 6).toNat]?=some (.int .i64 x)/\0<=x/\x<=575999999:=
 six (fun j=>match j with|0=>0|1=>1|2=>575999999|3=>575999998|4=>1439|_=>1440) q hq (fun j _=>by split<;>omega)
theorem zj7 (x:Int)(k:Nat)(hk:k<=62): ∃ q,bits .and .i64 x ((2:Int) ^ k - 1)=q/\0<=q/\q<=2 ^ k - 1:=by
 have hpos:0<(2:Int) ^ k:=Int.pow_pos qF
 refine ⟨_,rfl,?_,?_⟩
 ·rw [zfj _ _ hk];exact Int.emod_nonneg _ qF
 ·rw [zfj _ _ hk];have:=Int.emod_lt_of_pos x hpos;omega
theorem yos (n:Int)(w:World):Calls Tryz.prog 76 #[.int .i64 n] w (MomR w):=by
 obtain ⟨q,hq,hq0,hq1⟩:=yi6 n
 obtain ⟨x,hx,hx0,hx1⟩:=yot q hq0
 obtain ⟨a1,ha1,a10,a11⟩:=zj7 (q / 256) 4 qF
 obtain ⟨a2,ha2,a20,a21⟩:=zj7 (q / 8) 2 qF
 obtain ⟨a3,ha3,a30,a31⟩:=zj7 (q / 32) 1 qF
 simp at ha1 ha2 ha3 a11 a21 a31
 by_cases h0:a1=0
 ·have hz:(a1==0)=true:=by simp [h0]
  clear h0
  go_enter Tryz.func76,Tryz.ntmps76
  go_wp2
  go_ret
  exact ⟨x,by simp,hx0,hx1,zae _ _⟩
 ·have hz:(a1==0)=false:=by simp [h0]
  clear h0
  go_enter Tryz.func76,Tryz.ntmps76
  go_wp2
  go_ret
  exact ⟨144000+a2*1440+q % 7*200+a3*1439 - 600,by simp,by omega,by omega,za0 _⟩
def ValR (kind:Int)(w:World)(e:Ending)(w':World):Prop:= ∃ m s,e= .returned (.agg #[.int .i64 kind, .int .i64 m, .string s])/\yab ⟨kind,m,s⟩=true/\Below w.heap.size w w'
theorem words (q:Int)(hq:0<=q): ∃ s:ByteArray,[Value.string { data:= #[97]}, .string { data:= #[98]}, .string { data:= #[99]}, .string { data:= #[]}, .string { data:= #[105,116,39,115]}, .string { data:= #[97,32,98]}][(q % 6).toNat]?=some (.string s)/\s.size<=64:=by
 have h:(q % 6).toNat<6:=by omega
 generalize (q % 6).toNat=j at h
 match j,h with
 |0,_=>exact ⟨_,rfl,by decide⟩
 |1,_=>exact ⟨_,rfl,by decide⟩
 |2,_=>exact ⟨_,rfl,by decide⟩
 |3,_=>exact ⟨_,rfl,by decide⟩
 |4,_=>exact ⟨_,rfl,by decide⟩
 |5,_=>exact ⟨_,rfl,by decide⟩
theorem momE (n:Int)(w:World):Calls Tryz.prog 76 #[.int .i64 n] w (MomR w):=yos n w
theorem zqq (kind n:Int)(w:World)(h1:1<=kind)(h4:kind<=4):Calls Tryz.prog 47 #[.int .i64 kind, .int .i64 n] w (ValR kind w):=by
 obtain ⟨q,hq,hq0,hq1⟩:=yi6 n
 by_cases k1:kind=1
 ·subst k1
  obtain ⟨a,ha,ha0,ha1⟩:=zj7 q 1 qF
  simp at ha ha1
  go_enter Tryz.func47,Tryz.ntmps47
  go_wp2
  exact bodyPost_ret (v:= .agg #[.int .i64 1, .int .i64 a, .string ⟨#[]⟩]) (by simp [results,Tryz.results47,go_sem]) rfl ⟨a,⟨#[]⟩,rfl,by simp [yab];omega,zae _ _⟩
 by_cases k2:kind=2
 ·subst k2
  obtain ⟨a,ha,ha0,ha1⟩:=zj7 (q / 256) 5 qF
  obtain ⟨b,hb,hb0,hb1⟩:=zj7 q 1 qF
  obtain ⟨c,hc,hc0,hc1⟩:=zj7 q 2 qF
  simp at ha ha1 hb hb1 hc hc1
  by_cases a0:a=0
  ·have z0:(a==0)=true:=by simp [a0]
   clear a0
   go_enter Tryz.func47,Tryz.ntmps47
   go_wp2
   exact bodyPost_ret (v:= .agg #[.int .i64 2, .int .i64 (1073741824 - b), .string ⟨#[]⟩]) (by simp [results,Tryz.results47,go_sem]) rfl ⟨_,_,rfl,by simp [yab];omega,zae _ _⟩
  ·have z0:(a==0)=false:=by simp [a0]
   by_cases a1:a=1
   ·have z1:(a==1)=true:=by simp [a1]
    clear a0 a1
    go_enter Tryz.func47,Tryz.ntmps47
    go_wp2
    exact bodyPost_ret (v:= .agg #[.int .i64 2, .int .i64 (c - 1073741824), .string ⟨#[]⟩]) (by simp [results,Tryz.results47,go_sem]) rfl ⟨_,_,rfl,by simp [yab];omega,zae _ _⟩
   ·have z1:(a==1)=false:=by simp [a1]
    clear a0 a1
    go_enter Tryz.func47,Tryz.ntmps47
    go_wp2
    exact bodyPost_ret (v:= .agg #[.int .i64 2, .int .i64 (q % 7 - 2), .string ⟨#[]⟩]) (by simp [results,Tryz.results47,go_sem]) rfl ⟨_,_,rfl,by simp [yab];omega,zae _ _⟩
 by_cases k3:kind=3
 ·subst k3
  obtain ⟨s,hs,hs1⟩:=words q hq0
  go_enter Tryz.func47,Tryz.ntmps47
  go_wp2
  exact bodyPost_ret (v:= .agg #[.int .i64 3, .int .i64 0, .string s]) (by simp [results,Tryz.results47,go_sem]) rfl ⟨_,_,rfl,by simp [yab];omega,(zae _ _).alloc qH _⟩
 obtain rfl:kind=4:=by omega
 go_enter Tryz.func47,Tryz.ntmps47
 go_wp2_with fail
 refine (momE _ _).mono ?_
 rintro e w1 ⟨m,rfl,hm0,hm1,hb⟩
 have HB:=qL hb
 obtain ⟨hc,hf⟩:(w1.cell? ⟨w.heap.size,0,none⟩=some (.int .i64 0)/\w1.cell? ⟨w.heap.size,1,none⟩=some (.int .i64 0)/\w1.cell? ⟨w.heap.size,2,none⟩=some (.string ⟨#[]⟩))/\(∀ o,w1.frozen? ⟨w.heap.size,o,none⟩=false):=by
  refine ⟨⟨qM hb qH,qM hb qH,qM hb qH⟩,fun o=>?_⟩
  rw [hb.frozen (p:=⟨w.heap.size,o,none⟩) qH];simp
 obtain ⟨hc0,hc1,hc2⟩:=hc
 have hlt:w.heap.size<w1.heap.size:=by have:=hb.size;simp at this;omega
 clear hb
 go_wp2
 exact bodyPost_ret (v:= .agg #[.int .i64 4, .int .i64 m, .string ⟨#[]⟩]) (by simp [results,Tryz.results47,go_sem,hc0,hc1,hc2]) rfl ⟨_,_,rfl,by simp [yab];omega,(((Below.setCell (btr (zae _ _) HB.out) (p:=⟨_,0,none⟩) qH _).setCell (p:=⟨_,1,none⟩) qH _).setCell (p:=⟨_,2,none⟩) qH _)⟩
def okV (c:Col)(v:Val):Prop:=yab v=true/\((v.k=0/\c.nl=true)∨(v.k≠0/\v.k=c.k))
def CelR (c:Col)(w:World)(e:Ending)(w':World):Prop:= ∃ v:Val,e= .returned (.agg #[.int .i64 v.k, .int .i64 v.m, .string v.s])/\okV c v/\Below w.heap.size w w'
theorem Yd7 (c:Col)(n:Int)(w:World)(h1:1<=c.k)(h4:c.k<=4)(hn:0<=n)(hn1:n<=131070):Calls Tryz.prog 73 #[.agg #[.string c.nm, .int .i64 c.k, .bool c.nl], .int .i64 n] w (CelR c w):=by
 have main: ∀ (nl:Bool) (z:Bool),c.nl=nl->(n % 4==0)=z->Calls Tryz.prog 73 #[.agg #[.string c.nm, .int .i64 c.k, .bool nl], .int .i64 n] w (CelR c w):=by
  intro nl z hnl hz
  by_cases hb:nl=true/\z=true
  ·obtain ⟨rfl,rfl⟩:=hb
   have HN:=qL hnl
   clear hnl
   go_enter Tryz.func73,Tryz.ntmps73
   go_wp2
   exact bodyPost_ret (v:= .agg #[.int .i64 0, .int .i64 0, .string ⟨#[]⟩]) (by simp [results,Tryz.results73,go_sem]) rfl ⟨⟨0,0,⟨#[]⟩⟩,rfl,⟨by simp [yab], .inl ⟨rfl,HN.out⟩⟩,(by first |exact Below.refl _ _|exact zae _ _|exact (zae _ _).alloc qH _)⟩
  ·have HN:=qL hnl
   clear hnl
   have hv:=fun W=>zqq c.k (n / 4) W h1 h4
   have HV:=qL hv
   clear hv
   cases nl<;>cases z<;>(first |(exact absurd ⟨rfl,rfl⟩ hb)|skip)
   all_goals
    clear hb
    go_enter Tryz.func73,Tryz.ntmps73
    go_wp2_with fail
    refine (HV.out _).mono ?_
    rintro e w1 ⟨m,s,rfl,hval,hb⟩
    have HB:=qL hb
    have hc0:w1.cell? ⟨w.heap.size+1,0,none⟩=some (.int .i64 0):=qM hb qH
    have hc1:w1.cell? ⟨w.heap.size+1,1,none⟩=some (.int .i64 0):=qM hb qH
    have hc2:w1.cell? ⟨w.heap.size+1,2,none⟩=some (.string ⟨#[]⟩):=qM hb qH
    have hf: ∀ o,w1.frozen? ⟨w.heap.size+1,o,none⟩=false:=fun o=>by rw [hb.frozen (p:=⟨w.heap.size+1,o,none⟩) qH];simp
    have hlt:w.heap.size+1<w1.heap.size:=by have:=hb.size;simp at this;omega
    clear hb
    go_wp2
    exact bodyPost_ret (v:= .agg #[.int .i64 c.k, .int .i64 m, .string s]) (by simp [results,Tryz.results73,go_sem,hc0,hc1,hc2]) rfl ⟨⟨c.k,m,s⟩,rfl,⟨hval, .inr ⟨by show c.k≠0;omega,rfl⟩⟩,(((Below.setCell (btr ((zae _ _).alloc qH _) HB.out) (p:=⟨_,0,none⟩) qH _).setCell (p:=⟨_,1,none⟩) qH _).setCell (p:=⟨_,2,none⟩) qH _)⟩
 exact main c.nl (n % 4==0) rfl rfl
def yq0 (w:World)(e:Ending)(w':World):Prop:= ∃ A n c l,e= .returned (.slice A n c)/\rInt w A n l/\n<=c/\n<=9223372036854775807/\w=w'
theorem Yh6 (A:Option Addr)(n c:Nat)(l:List Int)(k:Nat)(w:World)(h:rInt w A n l)(hc:n<=c)(hn:n<=9223372036854775807)(hc2:c<=9223372036854775807)(hk:k<=100):Calls Tryz.prog 24 #[.slice A n c, .int .i64 k] w (yq0 w):=by
 have HR:=qL h
 clear h
 rcases Nat.lt_or_ge n k with h1|h1
 ·have hm:min (n:Int) (k:Int)=(n:Int):=by omega
  go_enter Tryz.func24,Tryz.ntmps24
  go_wp2
  all_goals (go_ret;exact ⟨_,0,_,[],rfl,Fl.nil _ _ _,Nat.zero_le _,Nat.zero_le _,rfl⟩)
 ·have hm:min (n:Int) (k:Int)=(k:Int):=by omega
  have HD:Hid (¬ c=k->rInt w (Option.map (fun x=>x.add k) A) (n - k) (l.drop k)):=qL fun hne=>by
   rcases Nat.eq_zero_or_pos n with h0|h0
   ·subst h0
    obtain rfl:k=0:=by omega
    have hl:=HR.out.len
    obtain rfl:l= []:=List.eq_nil_of_length_eq_zero hl
    exact Fl.nil _ _ _
   ·obtain ⟨b,off,e,_⟩:=HR.out.opn h0
    rw [e,Option.map_some,zaw]
    have:=(zgl.2 HR.out).drop k h1 e
    rw [show kInt.C=1 from rfl,Nat.mul_one] at this
    exact zgl.1 this
  by_cases hck:c=k
  ·have HC:=qL hck
   have e0:Hid (n - k=0):=qL qF
   go_enter Tryz.func24,Tryz.ntmps24
   go_wp2
   all_goals (go_ret;exact ⟨_,0,_,[],rfl,Fl.nil _ _ _,Nat.zero_le _,Nat.zero_le _,rfl⟩)
  ·have HC:=qL hck
   have HD2:=qL (HD.out hck)
   clear hck
   go_enter Tryz.func24,Tryz.ntmps24
   go_wp2
   all_goals (go_ret;first |exact absurd qI HC.out|exact ⟨_,_,_,_,rfl,HD2.out,by omega,by omega,rfl⟩|exact ⟨_,0,_,[],rfl,Fl.nil _ _ _,Nat.zero_le _,Nat.zero_le _,rfl⟩)
theorem Yh7 (A:Option Addr)(n c:Nat)(l:List Int)(k:Int)(w:World)(h:rInt w A n l)(hc:n<=c)(hn:n<=9223372036854775807)(hc2:c<=9223372036854775807)(h0:0<=k)(hk:k<=100):Calls Tryz.prog 24 #[.slice A n c, .int .i64 k] w (yq0 w):=by
 obtain ⟨j,rfl⟩:=Int.eq_ofNat_of_zero_le h0
 exact Yh6 A n c l j w h hc hn hc2 qF
theorem zl8 {α:Type}{enc:α->List Value}{C:Nat}(hC: ∀ x,(enc x).length=C): ∀ (l:List α) (k:Nat) (x:α),k<l.length->flat enc (l.set k x)=(flat enc l).take (k*C)++enc x++(flat enc l).drop (k*C+C)
 |y::l,0,x,_=>by
  rw [List.set_cons_zero,zba,zba,Nat.zero_mul,List.take_zero,List.nil_append,Nat.zero_add]
  congr 1
  rw [<-hC y,List.drop_left]
 |y::l,k+1,x,h=>by
  have e:(k+1)*C=(enc y).length+k*C:=by rw [hC,Nat.succ_mul];omega
  rw [List.set_cons_succ,zba,zba,e,List.take_length_add_append,Nat.add_assoc,List.drop_length_add_append,zl8 hC l k x (by simpa using h)]
  simp [List.append_assoc]
theorem zjm : ∀ (l:List Value) (k:Nat) (a b c:Value),k+3<=l.length->((l.set k a).set (k+1) b).set (k+2) c=l.take k++ [a,b,c]++l.drop (k+3)
 |x::y::z::l,0,a,b,c,_=>by simp
 |x::l,k+1,a,b,c,h=>by
  have:=zjm l k a b c (by simp at h;omega)
  simp only [List.set_cons_succ,List.take_succ_cons,List.cons_append,List.drop_succ_cons]
  exact congrArg (x:: ·) this
theorem zmr {α:Type}{enc:α->List Value}(hC: ∀ x,(enc x).length=3){w:World}{base e n cap g k:Nat}{l:List α}{x:α}{a b c:Value}(hx:enc x= [a,b,c])
 (h:w.ownsRow base e 3 (.slice (some ⟨g,0,none⟩) n cap) n (flat enc l)) (hk:k<n):
 (((w.setCell ⟨g,k*3,none⟩ a).setCell ⟨g,k*3+1,none⟩ b).setCell ⟨g,k*3+2,none⟩ c).ownsRow base e 3 (.slice (some ⟨g,0,none⟩) n cap) n (flat enc (l.set k x)):=by
 have hl:l.length=n:=by
  have:=h.1
  rw [zau hC] at this
  omega
 have h1:=(h.stored (k*3) a).1
 have h2:=(h1.stored (k*3+1) b).1
 have h3:=(h2.stored (k*3+2) c).1
 rw [zjm _ _ _ _ _ (by rw [zau hC];omega)] at h3
 rw [zl8 hC l k x qF,hx]
 exact h3
theorem yj2 (z:Value)(hz:z.cells= #[.int .i64 0, .int .i64 0, .string ⟨#[]⟩])(n:Nat):(madeCells z.cells (n*3)).toList=flat yat (List.replicate n ⟨0,0,⟨#[]⟩⟩):=by
 apply List.ext_getElem?
 intro j
 rw [hz]
 have hl:(flat yat (List.replicate n ⟨0,0,⟨#[]⟩⟩)).length=n*3:=by rw [zau za4,List.length_replicate]
 by_cases hj:j<n*3
 ·have e:j=j / 3*3+j % 3:=by omega
  have h3:j % 3<3:=Nat.mod_lt _ qF
  have hg:(List.replicate n (⟨0,0,⟨#[]⟩⟩:Val))[j / 3]?=some ⟨0,0,⟨#[]⟩⟩:=by rw [List.getElem?_replicate,if_pos qF]
  have hf:=zbf za4 hg (j % 3) h3
  rw [<-e] at hf
  rw [hf]
  simp only [madeCells,Array.getElem?_toList,Array.getElem?_map,Array.getElem?_range,hj,if_true,Option.map_some]
  generalize j % 3=r at h3
  match r,h3 with
  |0,_=>rfl
  |1,_=>rfl
  |2,_=>rfl
 ·rw [List.getElem?_eq_none (by simp [madeCells];omega),List.getElem?_eq_none qF]
def RowR (cs:List Col)(w:World)(e:Ending)(w':World):Prop:= ∃ A c r,e= .returned (.slice A cs.length c)/\rVal w' A cs.length r/\okRow cs r/\Below w.heap.size w w'/\ ∀ a,A=some a->w.heap.size<=a.block/\a.block<w'.heap.size
def yy4 (cs:List Col):Prop:= ∀ c∈cs,1<=c.k/\c.k<=4
theorem atE' (A:Option Addr)(n c:Nat)(l:List Int)(i:Int)(w:World)(h:rInt w A n l)(hn:n<=9223372036854775807):Calls Tryz.prog 25 #[.slice A n c, .int .i64 i] w (AtR w):=atE A n c l i w h hn
theorem zi4 :(Tryz.prog.info? 46).map (fun i=>(i.zero,i.size,i.bytes))=some (some (.agg #[.int .i64 0, .int .i64 0, .string ⟨#[]⟩]),3,32):=by kernel_rfl
theorem rowE (A:Option Addr)(n c:Nat)(cs:List Col)(A':Option Addr)(n' c':Nat)(l:List Int)(at_:Int)(w:World)(hcs:rCol w A n cs)(hl:rInt w A' n' l)(hn:n<=1000)(hn':n'<=9223372036854775807)(hok:yy4 cs)(h0:0<=at_)(h1:at_<=1000000):
 Calls Tryz.prog 44 #[.slice A n c, .slice A' n' c', .int .i64 at_] w (RowR cs w):=by
 obtain ⟨i0,hi,hz0,hz1,hz2⟩:=info_parts zi4
 have hmk: ∀ W:World,∃ w',(Instr.makeSlice 63 (.int .i64 (n:Int)) (.int .i64 (n:Int))).run Tryz.prog W= .ok (.slice (some ⟨W.heap.size,0,none⟩) n n) w'/\
  w'.ownsRow W.heap.size 46 3 (.slice (some ⟨W.heap.size,0,none⟩) n n) n (flat yat (List.replicate n ⟨0,0,⟨#[]⟩⟩))/\W.grownBy w' none:=fun W=>by
  have:=run_make_full (P:=Tryz.prog) W W.heap.size 63 46 i0 _ 3 Tryz.underlying63 hi hz0 hz1 .i64 .i64 n (by rw [hz2];omega) (by unfold maxLen;omega) (qV _)
  rwa [yj2 _ rfl] at this
 have HC:=qL hcs
 have HL:=qL hl
 have LC:=qL hcs.len
 have HOK:=qL hok
 obtain ⟨w1,hm1,hm2,hm3⟩:=hmk w
 have HM:=qL hm2
 have hB1:Below w.heap.size w w1:=za9 hm3 (qV _) (fun k h=>by cases h)
 clear hcs hl hok hmk hm2 hm3
 go_enter Tryz.func44,Tryz.ntmps44
 go_wp2
 go_loopw [8] (fun i wr=> ∃ (k:Nat) (r:List Val),k<=n/\i= .int .i64 k/\Below w.heap.size w wr/\Hid (r.length=n)/\Hid (wr.ownsRow w.heap.size 46 3 (.slice (some ⟨w.heap.size,0,none⟩) n n) n (flat yat r))/\Hid (∀ j v c,j<k->r[j]?=some v->cs[j]?=some c->okV c v)) (fun i _=>n - (intOf i).toNat)
 case atStart=>exact ⟨0,_,by omega,rfl,hB1,qL qH,HM,qL fun j _ _ hj=>absurd hj qF⟩
 case round=>
  obtain ⟨k,r,hk,rfl,hbw,HR,HO,HV⟩:=hrel
  by_cases hlt:k<n
  ·obtain ⟨b1,o1,rfl,hc1⟩:=(HC.out.later hbw).opn qF
   obtain ⟨x,hx⟩:=zah (l:=cs) (k:=k) (by have:=LC.out;omega)
   obtain ⟨x1,x2,x3⟩:=hc1 k x hx
   obtain ⟨y,hy⟩:=zah (l:=r) (k:=k) (by have:=HR.out;omega)
   have own:=HO.out
   have y1:wr.cell? ⟨w.heap.size,k*3,none⟩=some (held wr ⟨w.heap.size,k*3,none⟩):=zbt (by rw [own.cellAt _ qF];exact zbf za4 hy 0 qF)
   have y2:wr.cell? ⟨w.heap.size,k*3+1,none⟩=some (held wr ⟨w.heap.size,k*3+1,none⟩):=zbt (by rw [own.cellAt _ qF];exact zbf za4 hy 1 qF)
   have y3:wr.cell? ⟨w.heap.size,k*3+2,none⟩=some (held wr ⟨w.heap.size,k*3+2,none⟩):=zbt (by rw [own.cellAt _ qF];exact zbf za4 hy 2 qF)
   have yf: ∀ o,wr.frozen? ⟨w.heap.size,o,none⟩=false:=fun o=>own.frozenAt o
   have hbl:w.heap.size<wr.heap.size:=(own.lt _ rfl).2
   have hb1:b1<w.heap.size:=by
    obtain ⟨b2,o2,e,h⟩:=Fl.lt HC.out qF qF
    cases e;exact h
   have hne:b1≠w.heap.size:=by omega
   have HBW:=qL hbw
   have HX:=qL hx
   have HY:=qL hy
   have kk1:=(HOK.out x (qP hx)).1
   have kk2:=(HOK.out x (qP hx)).2
   have i0:(0:Int)<=at_+k:=by omega
   have i1:IntKind.i64.wrap (at_+(k:Int))=at_+k:=by rw [IntKind.wrap_i64];omega
   clear hc1 hx hy own
   go_wp2_with fail
   have hS0:(fun w'=>Below w.heap.size w w'
    /\w'.cell? ⟨b1,o1+k*3,none⟩=some (.string x.nm)/\w'.cell? ⟨b1,o1+k*3+1,none⟩=some (.int .i64 x.k)/\w'.cell? ⟨b1,o1+k*3+2,none⟩=some (.bool x.nl)
    /\w'.cell? ⟨w.heap.size,k*3,none⟩=some (held w' ⟨w.heap.size,k*3,none⟩)/\w'.cell? ⟨w.heap.size,k*3+1,none⟩=some (held w' ⟨w.heap.size,k*3+1,none⟩)/\w'.cell? ⟨w.heap.size,k*3+2,none⟩=some (held w' ⟨w.heap.size,k*3+2,none⟩)
    /\(∀ o,w'.frozen? ⟨w.heap.size,o,none⟩=false)/\w.heap.size<w'.heap.size) wr.drew:=⟨Below.drew HBW.out,x1,x2,x3,y1,y2,y3,yf,hbl⟩
   go_region_held3 (fun w'=>Below w.heap.size w w'
    /\w'.cell? ⟨b1,o1+k*3,none⟩=some (.string x.nm)/\w'.cell? ⟨b1,o1+k*3+1,none⟩=some (.int .i64 x.k)/\w'.cell? ⟨b1,o1+k*3+2,none⟩=some (.bool x.nl)
    /\w'.cell? ⟨w.heap.size,k*3,none⟩=some (held w' ⟨w.heap.size,k*3,none⟩)/\w'.cell? ⟨w.heap.size,k*3+1,none⟩=some (held w' ⟨w.heap.size,k*3+1,none⟩)/\w'.cell? ⟨w.heap.size,k*3+2,none⟩=some (held w' ⟨w.heap.size,k*3+2,none⟩)
    /\(∀ o,w'.frozen? ⟨w.heap.size,o,none⟩=false)/\w.heap.size<w'.heap.size)
    ((go_split_ands;refine ⟨?_,?_,?_,?_,?_,?_,?_,?_,?_⟩<;>(with_reducible first |assumption|(refine btr ?_ qI;assumption)|exact zev qI (qV _)|exact qM qI qI|(rw [zn8 hne];assumption)|(refine zhg ?_ qI;assumption)|exact zfl (zfl (zfl qI))|(intro o;refine Eq.trans (Below.frozen qI ?_) ?_<;>first |assumption|(revert o;assumption))|(refine qQ ?_ (Below.size qI);assumption)|(simp;assumption))))
    (first
     |(go_at_call 25;go_split_ands;(with_reducible refine (atE' _ _ _ _ _ _ (HL.out.later qI) hn').mono ?_);rintro e w' ⟨v25,rfl,hv0,hv1,hb25⟩)
     |(go_at_call 73;go_split_ands;(with_reducible refine (Yd7 x _ _ kk1 kk2 qI qI).mono ?_);rintro e w' ⟨v73,rfl,hv73,hb73⟩))
   have hbA:Below wr.heap.size wr _:=btr (zap hb25) hb73
   have own3:=zmr za4 (x:=v73) rfl (zic HO.out hbA) hlt
   have hbB:=zev (btr HBW.out hbA) (qV w.heap.size) (a:=k*3) (b:=k*3+1) (c:=k*3+2) (x:= .int .i64 v73.k) (y:= .int .i64 v73.m) (z:= .string v73.s)
   have HO3:=qL own3
   have HB3:=qL hbB
   clear own3 hbB
   go_split_ands
   go_wp2
   go_roundw
   case rel=>exact ⟨k+1,r.set k v73,by omega,by go_num,HB3.out,qL (by rw [List.length_set];exact HR.out),HO3,qL fun j v c hj hv hc=>by
    rcases Nat.lt_or_ge j k with h|h
    ·rw [List.getElem?_set_ne qF] at hv
     exact HV.out j v c h hv hc
    ·obtain rfl:j=k:=by omega
     rw [List.getElem?_set_self (by have:=HR.out;omega)] at hv
     rw [HX.out] at hc
     cases hv;cases hc
     exact hv73⟩
   case measure=>simp [intOf];omega
  ·go_wp2
   go_ret
   obtain rfl:k=n:=by omega
   have e:=LC.out
   subst e
   refine ⟨_,_,r,rfl,?_,⟨HR.out,fun j v c hv hc=>HV.out j v c (by have:=(qO hc).1;omega) hv hc⟩,hbw,fun a ha=>by cases ha;exact ⟨qV _,(HO.out.lt _ rfl).2⟩⟩
   obtain ⟨A2,c2,e2,hr2,_⟩:=zd9 HO.out
   cases e2
   exact hr2
end
section
open Go.RowKit
def yac :Tab->Int
 | []=>0
 |x::l=>x.2+yac l
theorem zbb (a b:Tab):yac (a++b)=yac a+yac b:=by
 induction a with
 |nil=>simp [yac]
 |cons x a ih=>rw [List.cons_append,yac,yac,ih];omega
def eOk (t:Tab):Prop:= ∀ x∈t,0<x.2/\x.1.length<=12
theorem eOk.nil :eOk []:=fun x h=>by cases h
theorem eOk.tail {x:List Val × Int}{l:Tab}(h:eOk (x::l)):eOk l:=fun y hy=>h y (qW _ hy)
theorem eOk.sum {t:Tab}(h:eOk t):0<=yac t:=by
 induction t with
 |nil=>simp [yac]
 |cons x t ih=>have:=h x (List.mem_cons_self ..);have:=ih h.tail;rw [yac];omega
theorem eOk.le {t:Tab}(h:eOk t){x:List Val × Int}(hx:x∈t):x.2<=yac t:=by
 induction t with
 |nil=>cases hx
 |cons y t ih=>
  have h1:=h y (List.mem_cons_self ..)
  have h2:=h.tail.sum
  rw [yac]
  rcases qY hx with rfl|hx
  ·omega
  ·have:=ih h.tail hx;omega
theorem eOk.len {t:Tab}(h:eOk t):(t.length:Int)<=yac t:=by
 induction t with
 |nil=>simp [yac]
 |cons x t ih=>have:=h x (List.mem_cons_self ..);have:=ih h.tail;rw [yac,List.length_cons];omega
theorem eOk.append {a b:Tab}(h:eOk a)(k:eOk b):eOk (a++b):=fun x hx=>(List.mem_append.1 hx).elim (h x) (k x)
theorem eOk.take {t:Tab}(h:eOk t)(k:Nat):eOk (t.take k):=fun x hx=>h x (List.mem_of_mem_take hx)
theorem eOk.drop {t:Tab}(h:eOk t)(k:Nat):eOk (t.drop k):=fun x hx=>h x (List.mem_of_mem_drop hx)
theorem zbm (t:Tab)(k:Nat):yac (t.take k)+yac (t.drop k)=yac t:=by rw [<-zbb,List.take_append_drop]
def yai :Tab->Tab->Tab
 | [],b=>b
 |a,[]=>a
 |x::a,y::b=>if yag x.1 y.1<0 then x::yai a (y::b) else if 0<yag x.1 y.1 then y::yai (x::a) b else (x.1,x.2+y.2)::yai a b
termination_by a b => a.length + b.length
theorem zbr (b:Tab):yai [] b=b:=by unfold yai;rfl
theorem zby (a:Tab):yai a []=a:=by cases a<;>(unfold yai;rfl)
theorem zek {x y:List Val × Int}{a b:Tab}(h:yag x.1 y.1<0):yai (x::a) (y::b)=x::yai a (y::b):=by rw [yai,if_pos h]
theorem zej {x y:List Val × Int}{a b:Tab}(h:0<yag x.1 y.1):yai (x::a) (y::b)=y::yai (x::a) b:=by rw [yai,if_neg qF,if_pos h]
theorem zei {x y:List Val × Int}{a b:Tab}(h:yag x.1 y.1=0):yai (x::a) (y::b)=(x.1,x.2+y.2)::yai a b:=by rw [yai,if_neg qF,if_neg qF]
theorem zcy : ∀ (n:Nat) (a b:Tab),a.length+b.length<=n->Asc a->Asc b->Asc (yai a b)/\(∀ r,cnt (yai a b) r=cnt a r+cnt b r)/\yac (yai a b)=yac a+yac b/\(∀ x∈yai a b,(∃ y∈a,y.1=x.1)∨ ∃ y∈b,y.1=x.1)/\(eOk a->eOk b->eOk (yai a b))
 |_,[],b,_,_,hb=>by rw [zbr];exact ⟨hb,fun r=>by simp [cnt],by simp [yac],fun x hx=> .inr ⟨x,hx,rfl⟩,fun _ h=>h⟩
 |_,x::a,[],_,ha,_=>by rw [zby];exact ⟨ha,fun r=>by simp [cnt],by simp [yac],fun x hx=> .inl ⟨x,hx,rfl⟩,fun h _=>h⟩
 |0,x::a,y::b,h,_,_=>by simp at h
 |n+1,x::a,y::b,h,ha,hb=>by
  have hf:=zbs x.1 y.1
  rcases Int.lt_trichotomy (yag x.1 y.1) 0 with c|c|c
  ·rw [zek c]
   obtain ⟨i1,i2,i3,i4,i5⟩:=zcy n a (y::b) (by simp at h ⊢;omega) ha.2 hb
   refine ⟨⟨fun z hz=>?_,i1⟩,fun r=>by simp only [cnt,i2];omega,by simp only [yac,i3];omega,fun z hz=>?_,fun e1 e2=>?_⟩
   ·rcases i4 z hz with ⟨u,hu,e⟩|⟨u,hu,e⟩
    ·rw [<-e];exact ha.1 u hu
    ·rw [<-e]
     rcases qY hu with rfl|hu
     ·exact c
     ·exact zbi _ _ _ c (hb.1 u hu)
   ·rcases qY hz with rfl|hz
    ·exact .inl ⟨z,List.mem_cons_self ..,rfl⟩
    ·rcases i4 z hz with ⟨u,hu,e⟩|h
     ·exact .inl ⟨u,qW _ hu,e⟩
     ·exact .inr h
   ·intro z hz
    rcases qY hz with rfl|hz
    ·exact e1 z (List.mem_cons_self ..)
    ·exact i5 e1.tail e2 z hz
  ·rw [zei c]
   have e:=(zar _ _).1 c
   obtain ⟨i1,i2,i3,i4,i5⟩:=zcy n a b (by simp at h ⊢;omega) ha.2 hb.2
   refine ⟨⟨fun z hz=>?_,i1⟩,fun r=>?_,by simp only [yac,i3];omega,fun z hz=>?_,fun e1 e2=>?_⟩
   ·rcases i4 z hz with ⟨u,hu,e2⟩|⟨u,hu,e2⟩
    ·rw [<-e2];exact ha.1 u hu
    ·rw [<-e2];show yag x.1 _<0;rw [e];exact hb.1 u hu
   ·rw [cnt,i2,cnt,cnt,<-e]
    show (if yag x.1 r=0 then x.2+y.2 else 0)+_=_
    split<;>omega
   ·rcases qY hz with rfl|hz
    ·exact .inl ⟨x,List.mem_cons_self ..,rfl⟩
    ·rcases i4 z hz with ⟨u,hu,e⟩|⟨u,hu,e⟩
     ·exact .inl ⟨u,qW _ hu,e⟩
     ·exact .inr ⟨u,qW _ hu,e⟩
   ·intro z hz
    rcases qY hz with rfl|hz
    ·have h1:=e1 x (List.mem_cons_self ..)
     have h2:=e2 y (List.mem_cons_self ..)
     exact ⟨by show 0<x.2+y.2;omega,h1.2⟩
    ·exact i5 e1.tail e2.tail z hz
  ·rw [zej c]
   obtain ⟨i1,i2,i3,i4,i5⟩:=zcy n (x::a) b (by simp at h ⊢;omega) ha hb.2
   refine ⟨⟨fun z hz=>?_,i1⟩,fun r=>by simp only [cnt,i2];omega,by simp only [yac,i3];omega,fun z hz=>?_,fun e1 e2=>?_⟩
   ·rcases i4 z hz with ⟨u,hu,e⟩|⟨u,hu,e⟩
    ·rw [<-e]
     rcases qY hu with rfl|hu
     ·omega
     ·exact zbi _ _ _ qF (ha.1 u hu)
    ·rw [<-e];exact hb.1 u hu
   ·rcases qY hz with rfl|hz
    ·exact .inr ⟨z,List.mem_cons_self ..,rfl⟩
    ·rcases i4 z hz with h|⟨u,hu,e⟩
     ·exact .inl h
     ·exact .inr ⟨u,qW _ hu,e⟩
   ·intro z hz
    rcases qY hz with rfl|hz
    ·exact e2 z (List.mem_cons_self ..)
    ·exact i5 e1 e2.tail z hz
end
section
open Go.BigFrame Go.RowKit
theorem yyp :(Tryz.prog.info? 65).map (fun i=>(i.zero,i.size,i.bytes))=some (some (.agg #[.slice none 0 0, .int .i64 0]),2,32):=by kernel_rfl
theorem ymt : ∃ i,KinP Tryz.prog kEnt 29 i (.agg #[.slice none 0 0, .int .i64 0]) 32:=by
 obtain ⟨i0,hi,hz0,hz1,hz2⟩:=info_parts yyp
 exact ⟨i0,⟨Tryz.underlying29,hi,hz0,hz1,hz2,rfl,by omega⟩⟩
theorem zpw (B:Nat): ∃ i,KinP Tryz.prog (ybb B) 29 i (.agg #[.slice none 0 0, .int .i64 0]) 32:=by
 obtain ⟨i,h⟩:=ymt
 exact ⟨i,⟨h.ht,h.hi,h.hz,h.hs,h.hb,h.hzs,h.small⟩⟩
def TabR (t:Tab)(w:World)(e:Ending)(w':World):Prop:= ∃ A n c,e= .returned (.slice A n c)/\rTab w' A n t/\n<=c/\Below w.heap.size w w'
theorem Yed (A:Option Addr)(n c:Nat)(A':Option Addr)(n' c':Nat)(a b:List Val)(w:World)(ha:rVal w A n a)(hb:rVal w A' n' b)(hn:a.length<=12)(hn':b.length<=12):
 Calls Tryz.prog 60 #[.slice A n c, .slice A' n' c'] w fun e w'=>e= .returned (.int .i64 (yag a b))/\Below w.heap.size w w':=
 yrn A n c A' n' c' a b w ha hb (by have:=ha.len;omega) (by have:=hb.len;omega)
theorem yyw (A:Option Addr)(n c:Nat)(B:Option Addr)(m d:Nat)(ta tb:Tab)(w:World)(ha:rTab w A n ta)(hb:rTab w B m tb)(hc:n<=c)(hd:m<=d)(ea:eOk ta)(eb:eOk tb)(hs:yac ta+yac tb<=1000):
 Calls Tryz.prog 141 #[.slice A n c, .slice B m d] w (TabR (yai ta tb) w):=by
 obtain ⟨iE,PE⟩:=ymt
 have HA:=qL ha
 have HB:=qL hb
 have EA:=qL ea
 have EB:=qL eb
 have HSS:=qL hs
 clear ha hb ea eb hs
 go_enter Tryz.func141,Tryz.ntmps141
 go_wp2
 go_loopw [0,1,5] (fun a b o wr=> ∃ (A:Option Addr) (n c:Nat) (B:Option Addr) (m d:Nat) (la lb lo:Tab) (no:Nat),a= .slice A n c/\b= .slice B m d/\n<=c/\m<=d/\Hid (rTab w A n la)/\Hid (rTab w B m lb)/\Hid (eOk la/\eOk lb/\yac la+yac lb<=1000)/\Hid (ownD kEnt wr w.heap.size o no lo)/\no+n+m<=2000/\Below w.heap.size w wr/\Hid (lo++yai la lb=yai ta tb))
  (fun a b _ _=>match a,b with| .slice _ n _, .slice _ m _=>n+m|_,_=>0)
 case atStart=>
  refine ⟨A,n,c,B,m,d,ta,tb,[],0,rfl,rfl,hc,hd,HA,HB,qL ⟨EA.out,EB.out,HSS.out⟩,qL (ownD.nil _ _),?_,za0 _,qL rfl⟩
  have h1:=EA.out.len
  have h2:=EB.out.len
  have h3:=HA.out.len
  have h4:=HB.out.len
  have h5:=HSS.out
  omega
 case round=>
  obtain ⟨A,n,c,B,m,d,la,lb,lo,no,rfl,rfl,hnc,hmd,HLA,HLB,HE,HO,hno,hbw,HM⟩:=hrel
  have hv0: ∀ k,u5.ownBlock=some k->w.heap.size<=k:=fun k e=>(HO.out.lt k e).1
  have HV0:=qL hv0
  have HBW:=qL hbw
  by_cases hn0:n=0
  ·obtain rfl:la= []:=List.eq_nil_of_length_eq_zero (by have:=HLA.out.len;omega)
   subst hn0
   by_cases hm0:m=0
   ·obtain rfl:lb= []:=List.eq_nil_of_length_eq_zero (by have:=HLB.out.len;omega)
    subst hm0
    obtain ⟨A',c',rfl,hcc,hrd,_⟩:=HO.out.rd
    have HF:Hid (rTab wr A' no (yai ta tb)):=qL (by rw [<-HM.out,zbr,List.append_nil];exact hrd)
    clear hrd
    go_wp2
    go_ret
    exact ⟨_,_,_,rfl,HF.out,hcc,hbw⟩
   ·obtain ⟨y,lb,rfl⟩: ∃ x l,lb=x::l:=by
     cases lb with
     |nil=>have:=HLB.out.len;simp at this;omega
     |cons x l=>exact ⟨x,l,rfl⟩
    have dm:decide (0<m)=true:=by simp;omega
    obtain ⟨b2,o2,rfl,hc2⟩:=HLB.out.opn qF
    obtain ⟨sA,sN,sC,y1,y2,y3⟩:=hc2 0 y rfl
    simp only [Nat.zero_mul,Nat.add_zero] at y1 y2
    have Y3:=qL y3
    have FY:=qL (zh3 (n:=sN) hv0 (fun h0 a e=>zif y3 h0 a e))
    have HM2:Hid ((lo++ [y])++yai [] lb=yai ta tb):=qL (by rw [<-HM.out,zbr,zbr];simp)
    have HE2:Hid (eOk []/\eOk lb/\yac []+yac lb<=1000):=qL ⟨HE.out.1,HE.out.2.1.tail,by have h:=HE.out.2.2;have h2:=HE.out.2.1 y (List.mem_cons_self ..);rw [yac,yac] at h;rw [yac];omega⟩
    have HTB:=qL (rD.cut (K:=kEnt) (HLB.out) qF hmd)
    have HBQ:=qL (za0 wr)
    have HBA:=HBW
    have i0:0<m:=by omega
    have i1:(0:Int)<(m:Int):=by omega
    have i2:(1:Int)<=(m:Int):=by omega
    have i3:(1:Int)<=(d:Int):=by omega
    have z1:=qM hbw y1
    have z2:=qM hbw y2
    clear hc2 y3 hv0
    go_wp2_with fail
    have hcc:(d=1/\Hid (rTab w (some ⟨b2,o2,none⟩) (m - 1) lb))∨(¬ d=1/\Hid (rTab w (some ⟨b2,o2+2,none⟩) (m - 1) lb)):=by
     have h3:=HTB.out
     by_cases h:d=1
     ·rw [if_pos h] at h3
      exact .inl ⟨h,qL h3⟩
     ·rw [if_neg h,Option.map_some,zaw] at h3
      exact .inr ⟨h,qL h3⟩
    rcases hcc with ⟨hcc,HT3⟩|⟨hcc,HT3⟩
    all_goals
     go_region_held3 (fun w'=>Below w.heap.size w w'/\w'.cell? ⟨b2,o2,none⟩=some (.slice sA sN sC)/\w'.cell? ⟨b2,o2+1,none⟩=some (.int .i64 y.2))
      ((refine (fun (hB:Below w.heap.size w _)=>⟨hB,qM hB y1,qM hB y2⟩) ?_;first |exact Below.drew HBA.out|(go_split_ands;refine Below.alloc ?_ (Below.size qI) _;assumption)|(go_split_ands;exact zaf qI qI HV0.out)))
      ((refine za3 _ qJ _ _ qJ PE (HO.out.later ((Below.drew HBQ.out).alloc HBQ.out.size _)) ⟨_,0,none⟩ ⟨sA,sN,sC,y.2⟩ y qJ qJ (zan _ _ _ _ _ _) ⟨Y3.out.later ((Below.drew HBA.out).alloc HBA.out.size _),rfl⟩ FY.out qF (by have:=HBA.out.size;simp;omega) ?_;intro v' w' hown' hgrow hat))
     go_split_ands
     have HBF:Hid (Below w.heap.size w w'):=qL qI
     have HOF:=qL hown'
     clear hown' hgrow hat
     go_wp2
     exact ⟨⟨_,_,_,_,_,_,[],lb,lo++ [y],no+1,rfl,rfl,hnc,by omega,HLA,HT3,HE2,HOF,by omega,HBF.out,HM2⟩,by simp;omega⟩
  ·obtain ⟨x,la,rfl⟩: ∃ x l,la=x::l:=by
    cases la with
    |nil=>have:=HLA.out.len;simp at this;omega
    |cons x l=>exact ⟨x,l,rfl⟩
   have dn:decide (0<n)=true:=by simp;omega
   have zn:((n:Int)==0)=false:=by simp;omega
   obtain ⟨b1,o1,rfl,hc1⟩:=HLA.out.opn qF
   obtain ⟨rA,rN,rC,x1,x2,x3⟩:=hc1 0 x rfl
   simp only [Nat.zero_mul,Nat.add_zero] at x1 x2
   have X3:=qL x3
   have FX:=qL (zh3 (n:=rN) hv0 (fun h0 a e=>zif x3 h0 a e))
   have HTA:=qL (rD.cut (K:=kEnt) (HLA.out) qF hnc)
   have i0:0<n:=by omega
   have i1:(0:Int)<(n:Int):=by omega
   have i2:(1:Int)<=(n:Int):=by omega
   have i3:(1:Int)<=(c:Int):=by omega
   by_cases hm0:m=0
   ·obtain rfl:lb= []:=List.eq_nil_of_length_eq_zero (by have:=HLB.out.len;omega)
    subst hm0
    have HM2:Hid ((lo++ [x])++yai la []=yai ta tb):=qL (by rw [<-HM.out,zby,zby];simp)
    have HE2:Hid (eOk la/\eOk []/\yac la+yac []<=1000):=qL ⟨HE.out.1.tail,HE.out.2.1,by have h:=HE.out.2.2;have h2:=HE.out.1 x (List.mem_cons_self ..);rw [yac,yac] at h;rw [yac];omega⟩
    have HBQ:=qL (za0 wr)
    have HBA:=HBW
    have z1:=qM hbw x1
    have z2:=qM hbw x2
    clear hc1 x3 hv0
    go_wp2_with fail
    have hcc:(c=1/\Hid (rTab w (some ⟨b1,o1,none⟩) (n - 1) la))∨(¬ c=1/\Hid (rTab w (some ⟨b1,o1+2,none⟩) (n - 1) la)):=by
     have h3:=HTA.out
     by_cases h:c=1
     ·rw [if_pos h] at h3
      exact .inl ⟨h,qL h3⟩
     ·rw [if_neg h,Option.map_some,zaw] at h3
      exact .inr ⟨h,qL h3⟩
    rcases hcc with ⟨hcc,HT3⟩|⟨hcc,HT3⟩
    all_goals
     go_region_held3 (fun w'=>Below w.heap.size w w'/\w'.cell? ⟨b1,o1,none⟩=some (.slice rA rN rC)/\w'.cell? ⟨b1,o1+1,none⟩=some (.int .i64 x.2))
      ((refine (fun (hB:Below w.heap.size w _)=>⟨hB,qM hB x1,qM hB x2⟩) ?_;first |exact Below.drew HBA.out|(go_split_ands;refine Below.alloc ?_ (Below.size qI) _;assumption)|(go_split_ands;exact zaf qI qI HV0.out)))
      ((refine za3 _ qJ _ _ qJ PE (HO.out.later ((Below.drew HBQ.out).alloc HBQ.out.size _)) ⟨_,0,none⟩ ⟨rA,rN,rC,x.2⟩ x qJ qJ (zan _ _ _ _ _ _) ⟨X3.out.later ((Below.drew HBA.out).alloc HBA.out.size _),rfl⟩ FX.out qF (by have:=HBA.out.size;simp;omega) ?_;intro v' w' hown' hgrow hat))
     go_split_ands
     have HBF:Hid (Below w.heap.size w w'):=qL qI
     have HOF:=qL hown'
     clear hown' hgrow hat
     go_wp2
     exact ⟨⟨_,_,_,_,_,_,la,[],lo++ [x],no+1,rfl,rfl,by omega,hmd,HT3,HLB,HE2,HOF,by omega,HBF.out,HM2⟩,by simp;omega⟩
   ·obtain ⟨y,lb,rfl⟩: ∃ x l,lb=x::l:=by
     cases lb with
     |nil=>have:=HLB.out.len;simp at this;omega
     |cons x l=>exact ⟨x,l,rfl⟩
    have dm:decide (0<m)=true:=by simp;omega
    obtain ⟨b2,o2,rfl,hc2⟩:=HLB.out.opn qF
    obtain ⟨sA,sN,sC,y1,y2,y3⟩:=hc2 0 y rfl
    simp only [Nat.zero_mul,Nat.add_zero] at y1 y2
    have Y3:=qL y3
    have FY:=qL (zh3 (n:=sN) hv0 (fun h0 a e=>zif y3 h0 a e))
    have HTB:=qL (rD.cut (K:=kEnt) (HLB.out) qF hmd)
    have j0:0<m:=by omega
    have j1:(0:Int)<(m:Int):=by omega
    have j2:(1:Int)<=(m:Int):=by omega
    have j3:(1:Int)<=(d:Int):=by omega
    have gx1:=Gro.cell (qM hbw x1)
    have gy1:=Gro.cell (qM hbw y1)
    have hx12:=(HE.out.1 x (List.mem_cons_self ..)).2
    have hy12:=(HE.out.2.1 y (List.mem_cons_self ..)).2
    clear hc1 hc2 x3 y3 hv0
    rcases Int.lt_trichotomy (yag x.1 y.1) 0 with hcmp|hcmp|hcmp
    ·have k1:decide (yag x.1 y.1<0)=true:=by simp;omega
     have HM2:Hid ((lo++ [x])++yai la (y::lb)=yai ta tb):=qL (by rw [<-HM.out,zek hcmp];simp)
     have HE2:Hid (eOk la/\eOk (y::lb)/\yac la+yac (y::lb)<=1000):=qL ⟨HE.out.1.tail,HE.out.2.1,by have h:=HE.out.2.2;have h2:=HE.out.1 x (List.mem_cons_self ..);rw [yac] at h;omega⟩
     clear hcmp
     go_wp2_with fail
     refine zai qG qG ?_;(repeat (go_big_quiet_step ((go_at_call 60;exact Calls.gro_of (Yed rA rN rC sA sN sC x.1 y.1 _ (X3.out.later (btr hbw (Gro.below _))) (Y3.out.later (btr hbw (Gro.below _))) hx12 hy12)))));refine wpQuiet_nil ?_;intro _ hw';obtain ⟨pq,hw''⟩:=hw';subst hw'';have hbq:=pq.below;revert hbq;generalize pq.world=wq;intro hbq
     have HBQ:=qL hbq
     have HBA:=qL (btr hbw hbq)
     have z1:=qM HBA.out x1
     have z2:=qM HBA.out x2
     clear gx1 gy1 hbq
     go_wp2_with fail
     have hcc:(c=1/\Hid (rTab w (some ⟨b1,o1,none⟩) (n - 1) la))∨(¬ c=1/\Hid (rTab w (some ⟨b1,o1+2,none⟩) (n - 1) la)):=by
      have h3:=HTA.out
      by_cases h:c=1
      ·rw [if_pos h] at h3
       exact .inl ⟨h,qL h3⟩
      ·rw [if_neg h,Option.map_some,zaw] at h3
       exact .inr ⟨h,qL h3⟩
     rcases hcc with ⟨hcc,HT3⟩|⟨hcc,HT3⟩
     all_goals
      go_region_held3 (fun w'=>Below w.heap.size w w'/\w'.cell? ⟨b1,o1,none⟩=some (.slice rA rN rC)/\w'.cell? ⟨b1,o1+1,none⟩=some (.int .i64 x.2))
       ((refine (fun (hB:Below w.heap.size w _)=>⟨hB,qM hB x1,qM hB x2⟩) ?_;first |exact Below.drew HBA.out|(go_split_ands;refine Below.alloc ?_ (Below.size qI) _;assumption)|(go_split_ands;exact zaf qI qI HV0.out)))
       ((refine za3 _ qJ _ _ qJ PE (HO.out.later ((Below.drew HBQ.out).alloc HBQ.out.size _)) ⟨_,0,none⟩ ⟨rA,rN,rC,x.2⟩ x qJ qJ (zan _ _ _ _ _ _) ⟨X3.out.later ((Below.drew HBA.out).alloc HBA.out.size _),rfl⟩ FX.out qF (by have:=HBA.out.size;simp;omega) ?_;intro v' w' hown' hgrow hat))
      go_split_ands
      have HBF:Hid (Below w.heap.size w w'):=qL qI
      have HOF:=qL hown'
      clear hown' hgrow hat
      go_wp2
      exact ⟨⟨_,_,_,_,_,_,la,_,lo++ [x],no+1,rfl,rfl,by omega,hmd,HT3,HLB,HE2,HOF,by omega,HBF.out,HM2⟩,by simp;omega⟩
    ·have k1:decide (yag x.1 y.1<0)=false:=by simp;omega
     have k2:decide (0<yag x.1 y.1)=false:=by simp;omega
     have HM2:Hid ((lo++ [(x.1,x.2+y.2)])++yai la lb=yai ta tb):=qL (by rw [<-HM.out,zei hcmp];simp)
     have HE2:Hid (eOk la/\eOk lb/\yac la+yac lb<=1000):=qL ⟨HE.out.1.tail,HE.out.2.1.tail,by have h:=HE.out.2.2;have h2:=HE.out.1 x (List.mem_cons_self ..);have h3:=HE.out.2.1 y (List.mem_cons_self ..);rw [yac,yac] at h;omega⟩
     have b0:=(HE.out.1 x (List.mem_cons_self ..)).1
     have b1':=(HE.out.2.1 y (List.mem_cons_self ..)).1
     have b2':x.2+y.2<=1000:=by
      have h:=HE.out.2.2
      have h2:=HE.out.1.tail.sum
      have h3:=HE.out.2.1.tail.sum
      rw [yac,yac] at h;omega
     have iw:IntKind.i64.wrap (x.2+y.2)=x.2+y.2:=by rw [IntKind.wrap_i64];omega
     clear hcmp
     go_wp2_with fail
     refine zai qG qG ?_;(repeat (go_big_quiet_step ((go_at_call 60;exact Calls.gro_of (Yed rA rN rC sA sN sC x.1 y.1 _ (X3.out.later (btr hbw (Gro.below _))) (Y3.out.later (btr hbw (Gro.below _))) hx12 hy12)))));refine wpQuiet_nil ?_;intro _ hw';obtain ⟨pq,hw''⟩:=hw';subst hw'';have hbq:=pq.below;revert hbq;generalize pq.world=wq;intro hbq
     have HBQ:=qL hbq
     have HBA:=qL (btr hbw hbq)
     have z1:=qM HBA.out x1
     have z2:=qM HBA.out x2
     have z3:=qM HBA.out y2
     clear gx1 gy1 hbq
     go_wp2_with fail
     go_region_held3 (fun w'=>Below w.heap.size w w'/\w'.cell? ⟨b1,o1,none⟩=some (.slice rA rN rC)/\w'.cell? ⟨b1,o1+1,none⟩=some (.int .i64 x.2)/\w'.cell? ⟨b2,o2+1,none⟩=some (.int .i64 y.2))
      ((refine (fun (hB:Below w.heap.size w _)=>⟨hB,qM hB x1,qM hB x2,qM hB y2⟩) ?_;first |exact Below.drew HBA.out|(go_split_ands;refine Below.alloc ?_ (Below.size qI) _;assumption)|(go_split_ands;exact zaf qI qI HV0.out)))
      ((refine za3 _ qJ _ _ qJ PE (HO.out.later ((Below.drew HBQ.out).alloc HBQ.out.size _)) ⟨_,0,none⟩ ⟨rA,rN,rC,x.2+y.2⟩ (x.1,x.2+y.2) qJ qJ (zan _ _ _ _ _ _) ⟨X3.out.later ((Below.drew HBA.out).alloc HBA.out.size _),rfl⟩ FX.out qF (by have:=HBA.out.size;simp;omega) ?_;intro v' w' hown' hgrow hat))
     go_split_ands
     have HBF:Hid (Below w.heap.size w w'):=qL qI
     have HOF:=qL hown'
     clear hown' hgrow hat
     go_wp2_with fail
     go_quiet (fail)
     go_wp2
     have HTA4:Hid (rTab w (if c=1 then some ⟨b1,o1,none⟩ else some ⟨b1,o1+2,none⟩) (n - 1) la):=qL (by have h:=HTA.out;rw [Option.map_some,zaw] at h;exact h)
     have HTB4:Hid (rTab w (if d=1 then some ⟨b2,o2,none⟩ else some ⟨b2,o2+2,none⟩) (m - 1) lb):=qL (by have h:=HTB.out;rw [Option.map_some,zaw] at h;exact h)
     exact ⟨⟨_,_,_,_,_,_,la,lb,lo++ [(x.1,x.2+y.2)],no+1,rfl,rfl,by omega,by omega,HTA4,HTB4,HE2,qL (HOF.out.later (zbh _ _)),by omega,za6 HBF.out _,HM2⟩,by simp;omega⟩
    ·have k1:decide (yag x.1 y.1<0)=false:=by simp;omega
     have k2:decide (0<yag x.1 y.1)=true:=by simp;omega
     have HM2:Hid ((lo++ [y])++yai (x::la) lb=yai ta tb):=qL (by rw [<-HM.out,zej hcmp];simp)
     have HE2:Hid (eOk (x::la)/\eOk lb/\yac (x::la)+yac lb<=1000):=qL ⟨HE.out.1,HE.out.2.1.tail,by have h:=HE.out.2.2;have h2:=HE.out.2.1 y (List.mem_cons_self ..);rw [yac,yac] at h;rw [yac];omega⟩
     clear hcmp
     go_wp2_with fail
     refine zai qG qG ?_;(repeat (go_big_quiet_step ((go_at_call 60;exact Calls.gro_of (Yed rA rN rC sA sN sC x.1 y.1 _ (X3.out.later (btr hbw (Gro.below _))) (Y3.out.later (btr hbw (Gro.below _))) hx12 hy12)))));refine wpQuiet_nil ?_;intro _ hw';obtain ⟨pq,hw''⟩:=hw';subst hw'';have hbq:=pq.below;revert hbq;generalize pq.world=wq;intro hbq
     have HBQ:=qL hbq
     have HBA:=qL (btr hbw hbq)
     have z1:=qM HBA.out y1
     have z2:=qM HBA.out y2
     clear gx1 gy1 hbq
     go_wp2_with fail
     have hcc:(d=1/\Hid (rTab w (some ⟨b2,o2,none⟩) (m - 1) lb))∨(¬ d=1/\Hid (rTab w (some ⟨b2,o2+2,none⟩) (m - 1) lb)):=by
      have h3:=HTB.out
      by_cases h:d=1
      ·rw [if_pos h] at h3
       exact .inl ⟨h,qL h3⟩
      ·rw [if_neg h,Option.map_some,zaw] at h3
       exact .inr ⟨h,qL h3⟩
     rcases hcc with ⟨hcc,HT3⟩|⟨hcc,HT3⟩
     all_goals
      go_region_held3 (fun w'=>Below w.heap.size w w'/\w'.cell? ⟨b2,o2,none⟩=some (.slice sA sN sC)/\w'.cell? ⟨b2,o2+1,none⟩=some (.int .i64 y.2))
       ((refine (fun (hB:Below w.heap.size w _)=>⟨hB,qM hB y1,qM hB y2⟩) ?_;first |exact Below.drew HBA.out|(go_split_ands;refine Below.alloc ?_ (Below.size qI) _;assumption)|(go_split_ands;exact zaf qI qI HV0.out)))
       ((refine za3 _ qJ _ _ qJ PE (HO.out.later ((Below.drew HBQ.out).alloc HBQ.out.size _)) ⟨_,0,none⟩ ⟨sA,sN,sC,y.2⟩ y qJ qJ (zan _ _ _ _ _ _) ⟨Y3.out.later ((Below.drew HBA.out).alloc HBA.out.size _),rfl⟩ FY.out qF (by have:=HBA.out.size;simp;omega) ?_;intro v' w' hown' hgrow hat))
      go_split_ands
      have HBF:Hid (Below w.heap.size w w'):=qL qI
      have HOF:=qL hown'
      clear hown' hgrow hat
      go_wp2
      exact ⟨⟨_,_,_,_,_,_,_,lb,lo++ [y],no+1,rfl,rfl,hnc,by omega,HLA,HT3,HE2,HOF,by omega,HBF.out,HM2⟩,by simp;omega⟩
end
end Go.Proofs.YthcalfeoejdcgaaGreatDoor
