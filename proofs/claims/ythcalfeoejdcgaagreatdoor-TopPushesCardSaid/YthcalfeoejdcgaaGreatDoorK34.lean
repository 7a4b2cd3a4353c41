import Derived.Test.YthcalfeoejdcgaaGreatDoorK33
namespace Go.Proofs.YthcalfeoejdcgaaGreatDoor
set_option linter.unusedSimpArgs false
set_option linter.unusedVariables false
set_option maxRecDepth 100000
set_option maxHeartbeats 20000000
section
open Go.RowKit Go.BigFrame
theorem yoj {w:World}{b:Nat}{i:Int}(h:w.cell? ⟨b,0,none⟩=some (.int .i64 i)):rInt w (some ⟨b,0,none⟩) 1 [i]:=
 ⟨rfl,fun _=>⟨b,0,rfl,fun j u hu=>by
  match j,hu with
  |0,hu=>cases hu;exact h
  |j+1,hu=>cases hu⟩⟩
theorem yrh (rA:Option Addr)(rN rC:Nat)(r:List Val)(arg:Int)(w:World)(hr:rVal w rA rN r)(hn:rN<=100000):
 Calls Tryz.prog 287 #[.slice rA rN rC, .int .i64 arg] w fun e w'=>e= .returned (.agg #[.int .i64 (cel r arg).k, .int .i64 (cel r arg).m, .string (cel r arg).s])/\Below w.heap.size w w':=by
 obtain ⟨w0,hw0⟩: ∃ w0,w0=(w.alloc (.cells #[.int .i64 0, .int .i64 0, .string ⟨#[]⟩] 46)).alloc (.cells #[.int .i64 arg] 3):=⟨_,rfl⟩
 have hb0:Below w.heap.size w w0:=by rw [hw0];exact (zae _ _).alloc qH _
 have i0:w0.cell? ⟨w.heap.size+1,0,none⟩=some (.int .i64 arg):=by rw [hw0];(repeat (first |(refine zaa ?_ rfl;(simp;done))|(refine zad ?_;(simp;done))|(refine zac ?_ ?_;(focus first |(simp;done)|(simp;omega)))|(refine zab ?_ ?_;(focus first |(simp;done)|(simp;omega)))))
 have z0:w0.cell? ⟨w.heap.size,0,none⟩=some (.int .i64 0):=by rw [hw0];(repeat (first |(refine zaa ?_ rfl;(simp;done))|(refine zad ?_;(simp;done))|(refine zac ?_ ?_;(focus first |(simp;done)|(simp;omega)))|(refine zab ?_ ?_;(focus first |(simp;done)|(simp;omega)))))
 have z1:w0.cell? ⟨w.heap.size,1,none⟩=some (.int .i64 0):=by rw [hw0];(repeat (first |(refine zaa ?_ rfl;(simp;done))|(refine zad ?_;(simp;done))|(refine zac ?_ ?_;(focus first |(simp;done)|(simp;omega)))|(refine zab ?_ ?_;(focus first |(simp;done)|(simp;omega)))))
 have z2:w0.cell? ⟨w.heap.size,2,none⟩=some (.string ⟨#[]⟩):=by rw [hw0];(repeat (first |(refine zaa ?_ rfl;(simp;done))|(refine zad ?_;(simp;done))|(refine zac ?_ ?_;(focus first |(simp;done)|(simp;omega)))|(refine zab ?_ ?_;(focus first |(simp;done)|(simp;omega)))))
 have zf: ∀ o,w0.frozen? ⟨w.heap.size,o,none⟩=false:=fun o=>by rw [hw0];(repeat (first |(refine zaa ?_ rfl;(simp;done))|(refine zad ?_;(simp;done))|(refine zac ?_ ?_;(focus first |(simp;done)|(simp;omega)))|(refine zab ?_ ?_;(focus first |(simp;done)|(simp;omega)))))
 have hs0:w.heap.size<w0.heap.size:=by rw [hw0];simp;omega
 have HP:=qL (ypd rA rN rC r (some ⟨w.heap.size+1,0,none⟩) 1 1 [arg] w0 (hr.later hb0) (yoj i0) hn qF)
 have HB0:=qL hb0
 clear hb0 i0 hr
 go_enter Tryz.func287,Tryz.ntmps287
 go_wp2_with fail
 rw [<-hw0]
 clear hw0
 refine HP.out.mono ?_
 rintro e w2 ⟨A1,c1,rfl,hrd,hcc,hb2,hfr,hown⟩
 have hv:rVal w2 A1 1 [cel r arg]:=zb4.1 hrd
 obtain ⟨b,o,rfl,hc⟩:=Fl.cells hv za4 qF
 have g0:=hc 0 (cel r arg) 0 (.int .i64 (cel r arg).k) rfl qF rfl
 have g1:=hc 0 (cel r arg) 1 (.int .i64 (cel r arg).m) rfl qF rfl
 have g2:=hc 0 (cel r arg) 2 (.string (cel r arg).s) rfl qF rfl
 simp only [Nat.zero_mul,Nat.add_zero] at g0 g1 g2
 have z0:=qM hb2 z0
 have z1:=qM hb2 z1
 have z2:=qM hb2 z2
 have zf: ∀ o,w2.frozen? ⟨w.heap.size,o,none⟩=false:=fun o=>(hb2.frozen (p:=⟨w.heap.size,o,none⟩) hs0).trans (zf o)
 have HB2:=qL (btr HB0.out hb2)
 clear hc hv hrd hfr hown hb2 HP
 go_wp2
 exact bodyPost_ret (v:= .agg #[.int .i64 (cel r arg).k, .int .i64 (cel r arg).m, .string (cel r arg).s]) (by simp [results,Tryz.results287,go_sem,z0,z1,z2]) rfl ⟨rfl,((HB2.out.setCell (p:=⟨w.heap.size,0,none⟩) (qV _) _).setCell (p:=⟨w.heap.size,1,none⟩) (qV _) _).setCell (p:=⟨w.heap.size,2,none⟩) (qV _) _⟩
theorem yhw {arg:Int}{l:List (List Val)}{j:Nat}{r:List Val}(h:l[j]?=some r):atW arg l j=cel r arg:=by
 have hj:=(qO h).1
 unfold atW
 rw [if_pos ⟨by omega,by omega⟩]
 unfold ybs
 rw [show ((j:Int)).toNat=j from rfl,List.getD_eq_getElem?_getD,h]
 rfl
theorem yf0 {arg:Int}{l:List (List Val)}{i:Int}(h:i<0∨(l.length:Int)<=i):atW arg l i=zV:=by
 unfold atW
 rw [if_neg qF]
structure Bx (bn:Nat)(lA:Option Addr)(lN lC:Nat)(arg:Int)(w:World):Prop where
 l:w.cell? ⟨bn+1,0,none⟩=some (.slice lA lN lC)
 a:w.cell? ⟨bn+2,0,none⟩=some (.int .i64 arg)
 n:w.cell? ⟨bn+3,0,none⟩=some (.int .i64 lN)
theorem Bx.later {bn:Nat}{lA:Option Addr}{lN lC:Nat}{arg:Int}{w w':World}(h:Bx bn lA lN lC arg w)(hb:Below w.heap.size w w'):Bx bn lA lN lC arg w':=⟨qM hb h.l,qM hb h.a,qM hb h.n⟩
theorem atX (bn:Nat)(i:Int)(lA:Option Addr)(lN lC:Nat)(l:List (List Val))(arg:Int)(w:World)(hB:Bx bn lA lN lC arg w)(hl:rD kRow w lA lN l)(h12: ∀ r∈l,r.length<=12):
 Calls Tryz.prog 291 #[.int .i64 i, .pointer (some ⟨bn+3,0,none⟩), .pointer (some ⟨bn+1,0,none⟩), .pointer (some ⟨bn+2,0,none⟩)] w fun e w'=>e= .returned (.agg #[.int .i64 (atW arg l i).k, .int .i64 (atW arg l i).m, .string (atW arg l i).s])/\Below w.heap.size w w':=by
 have hL:=hl.len
 by_cases hin:0<=i/\i<(lN:Int)
 ·obtain ⟨j,rfl⟩: ∃ j:Nat,i=(j:Int):=⟨i.toNat,by omega⟩
  have hj:j<lN:=by omega
  obtain ⟨r,hr⟩:=zah (l:=l) (k:=j) qF
  obtain ⟨b1,o1,rfl,hc1⟩:=hl.opn qF
  obtain ⟨⟨rA,rN,rC⟩,x3,hcell⟩:=hc1 j r hr
  have x1:=hcell 0 (.slice rA rN rC) (by show 0<1;omega) rfl
  have x1:w.cell? ⟨b1,o1+j,none⟩=some (.slice rA rN rC):=by rw [show o1+j=o1+j*kRow.C+0 by show o1+j=o1+j*1+0;omega];exact x1
  have HRV:Hid (rVal w rA rN r):=qL (show rVal w rA rN r from x3)
  have hr12:=h12 r (qP hr)
  have hrN:rN<=100000:=by have:=HRV.out.len;omega
  rw [yhw hr]
  have hba:Below w.heap.size w (w.alloc (.cells #[.int .i64 0, .int .i64 0, .string ⟨#[]⟩] 46)).drew:=(zae _ _).drew
  have HC:=qL (yrh rA rN rC r arg (w.alloc (.cells #[.int .i64 0, .int .i64 0, .string ⟨#[]⟩] 46)).drew (HRV.out.later hba) hrN)
  have n1:=qM (zae w (.cells #[.int .i64 0, .int .i64 0, .string ⟨#[]⟩] 46)) hB.n
  have l1:=qM (zae w (.cells #[.int .i64 0, .int .i64 0, .string ⟨#[]⟩] 46)) hB.l
  have a1:=qM (zae w (.cells #[.int .i64 0, .int .i64 0, .string ⟨#[]⟩] 46)) hB.a
  have x1:=qM (zae w (.cells #[.int .i64 0, .int .i64 0, .string ⟨#[]⟩] 46)) x1
  have HBA:=qL hba
  have d1:(j:Int)<(lN:Int):=by omega
  have d0: ¬ (j:Int)<0:=by omega
  have d2: ¬ (lN:Int)<=(j:Int):=by omega
  have e1:decide ((lN:Int)<=(j:Int))=false:=by simp;omega
  have z0:(w.alloc (.cells #[.int .i64 0, .int .i64 0, .string ⟨#[]⟩] 46)).cell? ⟨w.heap.size,0,none⟩=some (.int .i64 0):=by simp
  have z1:(w.alloc (.cells #[.int .i64 0, .int .i64 0, .string ⟨#[]⟩] 46)).cell? ⟨w.heap.size,1,none⟩=some (.int .i64 0):=by simp
  have z2:(w.alloc (.cells #[.int .i64 0, .int .i64 0, .string ⟨#[]⟩] 46)).cell? ⟨w.heap.size,2,none⟩=some (.string ⟨#[]⟩):=by simp
  have zf: ∀ o,(w.alloc (.cells #[.int .i64 0, .int .i64 0, .string ⟨#[]⟩] 46)).drew.frozen? ⟨w.heap.size,o,none⟩=false:=fun o=>by (repeat (first |(refine zaa ?_ rfl;(simp;done))|(refine zad ?_;(simp;done))|(refine zac ?_ ?_;(focus first |(simp;done)|(simp;omega)))|(refine zab ?_ ?_;(focus first |(simp;done)|(simp;omega)))))
  have zs:w.heap.size<(w.alloc (.cells #[.int .i64 0, .int .i64 0, .string ⟨#[]⟩] 46)).drew.heap.size:=by simp
  clear hB hl hc1 hr x3 hcell hba
  go_enter Tryz.func291,Tryz.ntmps291
  go_wp2_with fail
  go_region_with (go_at_call 287;refine HC.out.mono ?_;rintro e w5 ⟨rfl,hb5⟩;have y0:w5.cell? ⟨w.heap.size,0,none⟩=some (.int .i64 0):=qM hb5 z0;have y1:w5.cell? ⟨w.heap.size,1,none⟩=some (.int .i64 0):=qM hb5 z1;have y2:w5.cell? ⟨w.heap.size,2,none⟩=some (.string ⟨#[]⟩):=qM hb5 z2;have yf: ∀ o,w5.frozen? ⟨w.heap.size,o,none⟩=false:=(fun o=>(hb5.frozen (p:=⟨w.heap.size,o,none⟩) zs).trans (zf o));have HB5:=qL (btr HBA.out hb5))
  all_goals
   go_wp2
   exact bodyPost_ret (v:= .agg #[.int .i64 (cel r arg).k, .int .i64 (cel r arg).m, .string (cel r arg).s]) (by simp [results,Tryz.results291,go_sem,y0,y1,y2]) rfl ⟨rfl,((HB5.out.setCell (p:=⟨w.heap.size,0,none⟩) (qV _) _).setCell (p:=⟨w.heap.size,1,none⟩) (qV _) _).setCell (p:=⟨w.heap.size,2,none⟩) (qV _) _⟩
 ·have hz:=yf0 (arg:=arg) (l:=l) (i:=i) qF
  rw [hz]
  have n1:=qM (zae w (.cells #[.int .i64 0, .int .i64 0, .string ⟨#[]⟩] 46)) hB.n
  have z0:(w.alloc (.cells #[.int .i64 0, .int .i64 0, .string ⟨#[]⟩] 46)).cell? ⟨w.heap.size,0,none⟩=some (.int .i64 0):=by simp
  have z1:(w.alloc (.cells #[.int .i64 0, .int .i64 0, .string ⟨#[]⟩] 46)).cell? ⟨w.heap.size,1,none⟩=some (.int .i64 0):=by simp
  have z2:(w.alloc (.cells #[.int .i64 0, .int .i64 0, .string ⟨#[]⟩] 46)).cell? ⟨w.heap.size,2,none⟩=some (.string ⟨#[]⟩):=by simp
  have zf: ∀ o,(w.alloc (.cells #[.int .i64 0, .int .i64 0, .string ⟨#[]⟩] 46)).frozen? ⟨w.heap.size,o,none⟩=false:=fun o=>by (repeat (first |(refine zaa ?_ rfl;(simp;done))|(refine zad ?_;(simp;done))|(refine zac ?_ ?_;(focus first |(simp;done)|(simp;omega)))|(refine zab ?_ ?_;(focus first |(simp;done)|(simp;omega)))))
  have HB5:=qL (zae w (.cells #[.int .i64 0, .int .i64 0, .string ⟨#[]⟩] 46))
  clear hB hl
  by_cases h0:i<0
  ·have d0:decide (i<0)=true:=by simp [h0]
   go_enter Tryz.func291,Tryz.ntmps291
   go_wp2
   exact bodyPost_ret (v:= .agg #[.int .i64 0, .int .i64 0, .string ⟨#[]⟩]) (by simp [results,Tryz.results291,go_sem,z0,z1,z2]) rfl ⟨rfl,HB5.out⟩
  ·have d0:decide (i<0)=false:=by simp;omega
   have d1:decide ((lN:Int)<=i)=true:=by simp;omega
   go_enter Tryz.func291,Tryz.ntmps291
   go_wp2
   exact bodyPost_ret (v:= .agg #[.int .i64 0, .int .i64 0, .string ⟨#[]⟩]) (by simp [results,Tryz.results291,go_sem,z0,z1,z2]) rfl ⟨rfl,HB5.out⟩
end
section
open Go.RowKit Go.BigFrame
structure CS (w:World)(f num:Int)(lA:Option Addr)(lN lC:Nat)(arg:Int)(r:List Val)(wr:World):Prop where
 below:Below w.heap.size w wr
 f:wr.cell? ⟨w.heap.size,1,none⟩=some (.int .i64 f)
 num:wr.cell? ⟨w.heap.size,3,none⟩=some (.int .i64 num)
 bx:Bx w.heap.size lA lN lC arg wr
 own:wr.ownsRow (w.heap.size+4) 46 3 (.slice (some ⟨w.heap.size+4,0,none⟩) lN lN) lN (flat yat r)
theorem CS.later {w wr w5:World}{f num:Int}{lA:Option Addr}{lN lC:Nat}{arg:Int}{r:List Val}(h:CS w f num lA lN lC arg r wr)(hb:Below wr.heap.size wr w5):CS w f num lA lN lC arg r w5:=
 ⟨btr h.below hb,qM hb h.f,qM hb h.num,h.bx.later hb,zic h.own hb⟩
theorem CS.tail {w w5:World}{f num:Int}{lA:Option Addr}{lN lC:Nat}{arg:Int}{r:List Val}(h:CS w f num lA lN lC arg r w5)(hr:r.length=lN){k:Nat}(hk:k<lN)(y:Val):
 (w5.cell? ⟨w.heap.size+4,k*3,none⟩=some (held w5 ⟨w.heap.size+4,k*3,none⟩)/\w5.cell? ⟨w.heap.size+4,k*3+1,none⟩=some (held w5 ⟨w.heap.size+4,k*3+1,none⟩)/\w5.cell? ⟨w.heap.size+4,k*3+2,none⟩=some (held w5 ⟨w.heap.size+4,k*3+2,none⟩)/\ ∀ o,w5.frozen? ⟨w.heap.size+4,o,none⟩=false)/\
 ∃ W,W=((w5.setCell ⟨w.heap.size+4,k*3,none⟩ (.int .i64 y.k)).setCell ⟨w.heap.size+4,k*3+1,none⟩ (.int .i64 y.m)).setCell ⟨w.heap.size+4,k*3+2,none⟩ (.string y.s)/\CS w f num lA lN lC arg (r.set k y) W:=by
 obtain ⟨q,hq⟩:=zah (l:=r) (k:=k) qF
 have own:=h.own
 refine ⟨⟨zbt (by rw [own.cellAt _ qF];exact zbf za4 hq 0 qF),zbt (by rw [own.cellAt _ qF];exact zbf za4 hq 1 qF),zbt (by rw [own.cellAt _ qF];exact zbf za4 hq 2 qF),fun o=>own.frozenAt o⟩,_,rfl,zev h.below qF,?_,?_,⟨?_,?_,?_⟩,zmr za4 (x:=y) rfl own hk⟩
 ·exact (zn8 (by show w.heap.size≠w.heap.size+4;omega)).trans h.f
 ·exact (zn8 (by show w.heap.size≠w.heap.size+4;omega)).trans h.num
 ·exact (zn8 (by show w.heap.size+1≠w.heap.size+4;omega)).trans h.bx.l
 ·exact (zn8 (by show w.heap.size+2≠w.heap.size+4;omega)).trans h.bx.a
 ·exact (zn8 (by show w.heap.size+3≠w.heap.size+4;omega)).trans h.bx.n
theorem ydm (nm co:ByteArray)(f num:Int)(exA:Option Addr)(exN exC:Nat)(lA:Option Addr)(lN lC:Nat)(arg:Int)(w:World)(hn:lN<=4096):
 ∃ w1,(Instr.makeSlice 63 (.int .i64 (lN:Int)) (.int .i64 (lN:Int))).run Tryz.prog ((((w.alloc (.cells #[.string nm, .int .i64 f, .string co, .int .i64 num, .slice exA exN exC] 40)).alloc (.cells #[.slice lA lN lC] 261)).alloc (.cells #[.int .i64 arg] 3)).alloc (.cells #[.int .i64 lN] 3))= .ok (.slice (some ⟨w.heap.size+4,0,none⟩) lN lN) w1/\
  CS w f num lA lN lC arg (List.replicate lN (⟨0,0,⟨#[]⟩⟩:Val)) w1:=by
 obtain ⟨i0,hi0,hz0,hz1,hz2⟩:=info_parts zi4
 have hmk: ∀ W:World,∃ w',(Instr.makeSlice 63 (.int .i64 (lN:Int)) (.int .i64 (lN:Int))).run Tryz.prog W= .ok (.slice (some ⟨W.heap.size,0,none⟩) lN lN) w'/\
  w'.ownsRow W.heap.size 46 3 (.slice (some ⟨W.heap.size,0,none⟩) lN lN) lN (flat yat (List.replicate lN (⟨0,0,⟨#[]⟩⟩:Val)))/\W.grownBy w' none:=fun W=>by
  have:=run_make_full (P:=Tryz.prog) W W.heap.size 63 46 i0 _ 3 Tryz.underlying63 hi0 hz0 hz1 .i64 .i64 lN (by rw [hz2];omega) (by unfold maxLen;omega) (qV _)
  rwa [zme (⟨0,0,⟨#[]⟩⟩:Val) _ za4 rfl] at this
 obtain ⟨w0,hw0⟩: ∃ w0,w0=(((w.alloc (.cells #[.string nm, .int .i64 f, .string co, .int .i64 num, .slice exA exN exC] 40)).alloc (.cells #[.slice lA lN lC] 261)).alloc (.cells #[.int .i64 arg] 3)).alloc (.cells #[.int .i64 lN] 3):=⟨_,rfl⟩
 obtain ⟨w1,hm1,hm2,hm3⟩:=hmk w0
 have hs0:w0.heap.size=w.heap.size+4:=by rw [hw0];simp
 rw [hs0] at hm2 hm1
 have hB0:Below w.heap.size w w0:=by rw [hw0];exact (((zae _ _).alloc qH _).alloc (by simp;omega) _).alloc (by simp;omega) _
 have bb:Below w0.heap.size w0 w1:=za9 hm3 (qV _) (fun k h=>by cases h)
 rw [<-hw0]
 refine ⟨w1,hm1,btr hB0 bb,?_,?_,⟨?_,?_,?_⟩,hm2⟩
 ·exact qM bb (by rw [hw0];exact qM (zae _ _) (qM (zae _ _) (qM (zae _ _) qH)))
 ·exact qM bb (by rw [hw0];exact qM (zae _ _) (qM (zae _ _) (qM (zae _ _) qH)))
 ·exact qM bb (by rw [hw0];exact qM (zae _ _) (qM (zae _ _) qH))
 ·exact qM bb (by rw [hw0];exact qM (zae _ _) (zaa qH qH))
 ·exact qM bb (by rw [hw0];exact zaa qH qH)
theorem CS.done {w wr:World}{f num:Int}{lA:Option Addr}{lN lC:Nat}{arg:Int}{os:List Int}{l:List (List Val)}{r:List Val}(h:CS w f num lA lN lC arg r wr)(hf:FilTo (yb7 os ⟨f,num,arg⟩ l) lN lN r)(hl:l.length=lN):yg9 kVal lN (yd6 os ⟨f,num,arg⟩ l) w (.returned (.slice (some ⟨w.heap.size+4,0,none⟩) lN lN)) wr:=by
 obtain ⟨A2,c2,e2,hr2,_⟩:=zd9 h.own
 have hend:r=yd6 os ⟨f,num,arg⟩ l:=by
  have:=hf.end_
  unfold yd6
  rw [hl];exact this
 cases e2
 subst hend
 exact ⟨_,_,rfl,zb4.2 hr2,qV _,h.below,(fun a ha=>by cases ha;exact ⟨by show w.heap.size<=w.heap.size+4;omega,(h.own.lt _ rfl).2⟩),(ownD.mono (K:=kVal) (base:=w.heap.size+4) ⟨_,h.own,zbg _,fun a _ p hp=>by cases hp⟩ qF)⟩
theorem yl6 (os:List Int)(num arg:Int)(l:List (List Val))(p:Nat):yb7 os ⟨9,num,arg⟩ l p=ya5 (yby os l p):=by
 unfold yb7
 rw [if_neg (by show ¬ (9:Int)=1;decide),if_neg (by show ¬ (9:Int)=8;decide),if_pos rfl]
def rk0 (os:List Int)(l:List (List Val)):Nat->Int
 |0=>1
 |k+1=>yby os l k
theorem ynr (nm co:ByteArray)(num:Int)(exA:Option Addr)(exN exC:Nat)(lA:Option Addr)(lN lC:Nat)(oA:Option Addr)(oN oC:Nat)(arg:Int)(os:List Int)(l:List (List Val))(w:World)(hl:rD kRow w lA lN l)(h12: ∀ r∈l,r.length<=12)(ho:rInt w oA oN os)(hoN:oN<=12)(hn:lN<=4096):
 Calls Tryz.prog 265 #[.agg #[.string nm, .int .i64 9, .string co, .int .i64 num, .slice exA exN exC], .slice lA lN lC, .slice oA oN oC, .int .i64 arg] w (yg9 kVal lN (yd6 os ⟨9,num,arg⟩ l) w):=by
 obtain ⟨w1,hm1,hS⟩:=ydm nm co 9 num exA exN exC lA lN lC arg w hn
 have HS:=qL hS
 have HL:=qL hl
 have LL:=qL hl.len
 have HO:=qL ho
 have LO:=qL ho.len
 have H12:=qL h12
 have c1:=hS.bx.l
 clear hS hl ho h12
 go_enter Tryz.func265,Tryz.ntmps265
 go_wp2
 clear hm1
 go_loopw [12,24] (fun rk i wr=> ∃ (k:Nat) (r:List Val),k<=lN/\i= .int .i64 k/\rk= .int .i64 (rk0 os l k)/\Hid (CS w 9 num lA lN lC arg r wr)/\Hid (FilTo (yb7 os ⟨9,num,arg⟩ l) lN k r)) (fun _ i _=>lN - (intOf i).toNat)
 case atStart=>exact ⟨0,_,by omega,rfl,rfl,HS,qL ⟨by rw [List.length_replicate],fun j hj=>absurd hj qF⟩⟩
 case round=>
  obtain ⟨k,r,hk,rfl,rfl,HC,HP⟩:=hrel
  obtain ⟨wx,rfl⟩: ∃ wx,wx=wr:=⟨_,rfl⟩
  by_cases hlt:k<lN
  ·have g1:=HC.out.f
   have g2:=HC.out.bx.l
   have hrl:=HP.out.1
   have HFT:Hid (FilTo (yb7 os ⟨9,num,arg⟩ l) lN (k+1) (r.set k (ya5 (yby os l k)))):=qL (by rw [<-yl6 os num arg l k];exact HP.out.put hlt)
   cases k with
   |zero=>
    go_wp2_with fail
    go_quiet (fail)
    have HCT:=qL (HC.out.later (zbh wx nq))
    go_wp2_with fail
    refine (ygl _ _).mono ?_
    rintro e w5 ⟨rfl,hb5⟩
    rw [show rk0 os l 0=yby os l 0 from rfl]
    obtain ⟨⟨z1,z2,z3,zf⟩,W,hW,hcs⟩:=(HCT.out.later hb5).tail hrl hlt (ya5 (yby os l 0))
    simp only [Nat.zero_mul,Nat.zero_add] at z1 z2 z3 hW
    have T:=qL hcs
    clear hb5 hcs g1 g2
    go_wp2
    rw [<-hW]
    go_roundw
    case rel=>exact ⟨0+1,_,by omega,by go_num,rfl,T,HFT⟩
    case measure=>simp [intOf];omega
   |succ p=>
    obtain ⟨b1,o1,rfl,hc1⟩:=HL.out.opn qF
    obtain ⟨ra,hra⟩:=zah (l:=l) (k:=p) (by have:=LL.out;omega)
    obtain ⟨rb,hrb⟩:=zah (l:=l) (k:=p+1) (by have:=LL.out;omega)
    obtain ⟨⟨aA,aN,aC⟩,a3,acell⟩:=hc1 p ra hra
    obtain ⟨⟨bA,bN,bC⟩,b3,bcell⟩:=hc1 (p+1) rb hrb
    have x1:=acell 0 (.slice aA aN aC) (by show 0<1;omega) rfl
    have y1:=bcell 0 (.slice bA bN bC) (by show 0<1;omega) rfl
    have x1:=qM HC.out.below (show w.cell? ⟨b1,o1+p,none⟩=some (.slice aA aN aC) by rw [show o1+p=o1+p*kRow.C+0 by show o1+p=o1+p*1+0;omega];exact x1)
    have y1:=qM HC.out.below (show w.cell? ⟨b1,o1+(p+1),none⟩=some (.slice bA bN bC) by rw [show o1+(p+1)=o1+(p+1)*kRow.C+0 by show o1+(p+1)=o1+(p+1)*1+0;omega];exact y1)
    have HRA:Hid (rVal wx aA aN ra):=qL ((show rVal w aA aN ra from a3).later HC.out.below)
    have HRB:Hid (rVal wx bA bN rb):=qL ((show rVal w bA bN rb from b3).later HC.out.below)
    have HOX:=qL (HO.out.later HC.out.below)
    have haN:aN<=100000:=by have:=HRA.out.len;have:=H12.out ra (qP hra);omega
    have hbN:bN<=100000:=by have:=HRB.out.len;have:=H12.out rb (qP hrb);omega
    have hoN2:oN<=100000:=by omega
    have HRK:Hid (yby os l (p+1)=if yag (pkV os ra) (pkV os rb)=0 then yby os l p else (p:Int)+2):=qL (by
     show (if yag (pkV os (ybs l p)) (pkV os (ybs l (p+1)))=0 then yby os l p else (p:Int)+2)=_
     rw [show ybs l p=ra by unfold ybs;rw [List.getD_eq_getElem?_getD,hra];rfl,show ybs l (p+1)=rb by unfold ybs;rw [List.getD_eq_getElem?_getD,hrb];rfl])
    have d1:decide ((0:Int)<(p:Int)+1)=true:=decide_eq_true qF
    have m1:IntKind.i64.wrap ((p:Int)+1 - 1)=(p:Int):=by rw [IntKind.wrap_i64];omega
    have m2:IntKind.i64.wrap ((p:Int)+1+1)=(p:Int)+2:=by rw [IntKind.wrap_i64];omega
    have m3:(p:Int)+1 - 1=(p:Int):=by omega
    have hbs:Below wx.heap.size wx wx:=za0 wx
    have j0:(0:Int)<=(p:Int):=by omega
    have m4:IntKind.i64.wrap (p:Int)=(p:Int):=by rw [IntKind.wrap_i64];omega
    have j1:(p:Int)<(lN:Int):=by omega
    have j2:(p:Int)+1<(lN:Int):=by omega
    have j3:(0:Int)<=(p:Int)+1:=by omega
    have j4:((p:Int)+1).toNat=p+1:=by omega
    have HLO:=qL LO.out
    clear hc1 hra hrb a3 b3 acell bcell
    go_wp2_with fail
    go_region_held3 (fun w'=>Below wx.heap.size wx w'/\w'.cell? ⟨w.heap.size+1,0,none⟩=some (.slice (some ⟨b1,o1,none⟩) lN lC)/\w'.cell? ⟨b1,o1+p,none⟩=some (.slice aA aN aC)/\w'.cell? ⟨b1,o1+(p+1),none⟩=some (.slice bA bN bC))
     ((first |exact ⟨Below.drew hbs,g2,x1,y1⟩|(go_split_ands;exact ⟨btr qI hb3,qM (btr qI hb3) g2,qM (btr qI hb3) x1,qM (btr qI hb3) y1⟩)|(go_split_ands;exact ⟨btr qI hb2,qM (btr qI hb2) g2,qM (btr qI hb2) x1,qM (btr qI hb2) y1⟩)|(go_split_ands;exact ⟨btr qI hb1,qM (btr qI hb1) g2,qM (btr qI hb1) x1,qM (btr qI hb1) y1⟩)))
     (first
      |(go_at_call 207;go_split_ands;(with_reducible refine (Yc7 aA aN aC ra oA oN oC os _ (HRA.out.later qI) (HOX.out.later qI) haN hoN2).mono ?_);rintro e wa ⟨A1,k1,rfl,hr1,hb1,hd1⟩;have HR1:=qL hr1;clear hr1)
      |(go_at_call 207;go_split_ands;(with_reducible refine (Yc7 bA bN bC rb oA oN oC os _ (HRB.out.later qI) (HOX.out.later qI) hbN hoN2).mono ?_);rintro e wb ⟨A2,k2,rfl,hr2,hb2,hd2⟩;have HR2:=qL hr2;clear hr2)
      |(go_at_call 42;go_split_ands;(with_reducible refine (Ycx A1 oN k1 A2 oN k2 (pkV os ra) (pkV os rb) _ (by first |exact HR1.out|exact HR1.out.later hb2) (by first |exact HR2.out|exact HR2.out.later hb1) (by rw [zdi];have:=LO.out;omega) (by rw [zdi];have:=LO.out;omega)).mono ?_);rintro e wc ⟨rfl,hb3,hd3⟩))
    all_goals
     go_split_ands
     have HCT:=qL (HC.out.later (show Below wx.heap.size wx wc by assumption))
     have g1:=HCT.out.f
     by_cases hz:yag (pkV os ra) (pkV os rb)=0
     ·have e0:(yag (pkV os ra) (pkV os rb) !=0)=false:=by simp [hz]
      have hrk:yby os l (p+1)=yby os l p:=by rw [HRK.out,if_pos hz]
      have HRR:Hid (rk0 os l (p+1)=yby os l (p+1)):=qL hrk.symm
      have HTT:=qL fun (w5:World) (hb5:Below wc.heap.size wc w5)=>(HCT.out.later hb5).tail hrl hlt (ya5 (yby os l (p+1)))
      clear hz hrk
      go_wp2_with fail
      refine (ygl _ _).mono ?_
      rintro e w5 ⟨rfl,hb5⟩
      rw [HRR.out]
      obtain ⟨⟨z1,z2,z3,zf⟩,W,hW,hcs⟩:=HTT.out w5 hb5
      have T:=qL hcs
      clear hb5 hcs
      go_wp2
      rw [<-hW]
      go_roundw
      case rel=>exact ⟨p+1+1,_,by omega,by go_num,rfl,T,HFT⟩
      case measure=>simp [intOf];omega
     ·have e0:(yag (pkV os ra) (pkV os rb) !=0)=true:=by simp [hz]
      have HRR:Hid ((p:Int)+2=yby os l (p+1)):=qL (by rw [HRK.out,if_neg hz])
      have HTT:=qL fun (w5:World) (hb5:Below wc.heap.size wc w5)=>(HCT.out.later hb5).tail hrl hlt (ya5 (yby os l (p+1)))
      clear hz
      go_wp2_with fail
      refine (ygl _ _).mono ?_
      rintro e w5 ⟨rfl,hb5⟩
      rw [HRR.out]
      obtain ⟨⟨z1,z2,z3,zf⟩,W,hW,hcs⟩:=HTT.out w5 hb5
      have T:=qL hcs
      clear hb5 hcs
      go_wp2
      rw [<-hW]
      go_roundw
      case rel=>exact ⟨p+1+1,_,by omega,by go_num,rfl,T,HFT⟩
      case measure=>simp [intOf];omega
  ·obtain rfl:k=lN:=by omega
   have HD:=qL (HC.out.done HP.out LL.out)
   go_wp2
   go_ret
   exact HD.out
end
section
open Go.RowKit Go.BigFrame
theorem yh0 (os:List Int)(num arg:Int)(l:List (List Val))(p:Nat):yb7 os ⟨10,num,arg⟩ l p=atW arg l ((p:Int) - num):=by
 unfold yb7
 rw [if_neg (by show ¬ (10:Int)=1;decide),if_neg (by show ¬ (10:Int)=8;decide),if_neg (by show ¬ (10:Int)=9;decide),if_neg (by show ¬ (10:Int)=3;decide),if_pos rfl]
theorem ynq (nm co:ByteArray)(num:Int)(exA:Option Addr)(exN exC:Nat)(lA:Option Addr)(lN lC:Nat)(oA:Option Addr)(oN oC:Nat)(arg:Int)(os:List Int)(l:List (List Val))(w:World)(hl:rD kRow w lA lN l)(h12: ∀ r∈l,r.length<=12)(hn:lN<=4096)(hnum:1<=num/\num<=4096):
 Calls Tryz.prog 265 #[.agg #[.string nm, .int .i64 10, .string co, .int .i64 num, .slice exA exN exC], .slice lA lN lC, .slice oA oN oC, .int .i64 arg] w (yg9 kVal lN (yd6 os ⟨10,num,arg⟩ l) w):=by
 obtain ⟨w1,hm1,hS⟩:=ydm nm co 10 num exA exN exC lA lN lC arg w hn
 have HS:=qL hS
 have HL:=qL hl
 have LL:=qL hl.len
 have H12:=qL h12
 have HNU:=qL hnum
 have c1:=hS.bx.l
 clear hS hl h12 hnum
 go_enter Tryz.func265,Tryz.ntmps265
 go_wp2
 clear hm1
 go_loopw [24] (fun i wr=> ∃ (k:Nat) (r:List Val),k<=lN/\i= .int .i64 k/\Hid (CS w 10 num lA lN lC arg r wr)/\Hid (FilTo (yb7 os ⟨10,num,arg⟩ l) lN k r)) (fun i _=>lN - (intOf i).toNat)
 case atStart=>exact ⟨0,_,by omega,rfl,HS,qL ⟨by rw [List.length_replicate],fun j hj=>absurd hj qF⟩⟩
 case round=>
  obtain ⟨k,r,hk,rfl,HC,HP⟩:=hrel
  obtain ⟨wx,rfl⟩: ∃ wx,wx=wr:=⟨_,rfl⟩
  by_cases hlt:k<lN
  ·have g1:=HC.out.f
   have g3:=HC.out.num
   have hrl:=HP.out.1
   have HFT:Hid (FilTo (yb7 os ⟨10,num,arg⟩ l) lN (k+1) (r.set k (atW arg l ((k:Int) - num)))):=qL (by rw [<-yh0 os num arg l k];exact HP.out.put hlt)
   have m1:IntKind.i64.wrap ((k:Int) - num)=(k:Int) - num:=by have:=HNU.out;rw [IntKind.wrap_i64];omega
   have HAT:=qL (atX w.heap.size ((k:Int) - num) lA lN lC l arg wx HC.out.bx (HL.out.later HC.out.below) H12.out)
   obtain ⟨v,hv⟩: ∃ v,v=atW arg l ((k:Int) - num):=⟨_,rfl⟩
   rw [<-hv] at HAT HFT
   clear hv
   go_wp2_with fail
   refine HAT.out.mono ?_
   rintro e w5 ⟨rfl,hb5⟩
   obtain ⟨⟨z1,z2,z3,zf⟩,W,hW,hcs⟩:=(HC.out.later hb5).tail hrl hlt v
   have T:=qL hcs
   clear hb5 hcs g1 g3
   go_wp2
   rw [<-hW]
   go_roundw
   case rel=>exact ⟨k+1,_,by omega,by go_num,T,HFT⟩
   case measure=>simp [intOf];omega
  ·obtain rfl:k=lN:=by omega
   have HD:=qL (HC.out.done HP.out LL.out)
   go_wp2
   go_ret
   exact HD.out
theorem yl5 (os:List Int)(num arg:Int)(l:List (List Val))(p:Nat):yb7 os ⟨3,num,arg⟩ l p=if yc9 arg l (p+1)=true then ya5 (ydg arg l (p+1)) else zV:=by
 unfold yb7
 rw [if_neg (by show ¬ (3:Int)=1;decide),if_neg (by show ¬ (3:Int)=8;decide),if_neg (by show ¬ (3:Int)=9;decide),if_pos rfl]
def yp1 (arg:Int)(l:List (List Val)):Prop:= ∀ i:Int,(atW arg l i).k=0∨((atW arg l i).k=2/\ -1073741824<=(atW arg l i).m/\(atW arg l i).m<=1073741824)
theorem yip {arg:Int}{l:List (List Val)}(h:yp1 arg l): ∀ k:Nat,-(1073741824*(k:Int))<=ydg arg l k/\ydg arg l k<=1073741824*(k:Int)
 |0=>by simp [ydg]
 |k+1=>by
  have ih:=yip h k
  rw [ydg]
  rcases h k with h0|⟨h0,h1,h2⟩
  ·rw [if_pos h0]
   have e:((k+1:Nat):Int)=(k:Int)+1:=by omega
   rw [e];omega
  ·rw [if_neg qF]
   have e:((k+1:Nat):Int)=(k:Int)+1:=by omega
   rw [e];omega
end
section
open Go.RowKit Go.BigFrame
theorem FilTo.same {f:Nat->Val}{n k:Nat}{r:List Val}(h:FilTo f n k r)(hk:r[k]?=some (f k)):FilTo f n (k+1) r:=
 ⟨h.1,fun j hj=>by
  by_cases e:j=k
  ·subst e;exact hk
  ·exact h.2 j qF⟩
theorem yns (nm co:ByteArray)(num:Int)(exA:Option Addr)(exN exC:Nat)(lA:Option Addr)(lN lC:Nat)(oA:Option Addr)(oN oC:Nat)(arg:Int)(os:List Int)(l:List (List Val))(w:World)(hl:rD kRow w lA lN l)(h12: ∀ r∈l,r.length<=12)(hn:lN<=4096)(hsum:yp1 arg l):
 Calls Tryz.prog 265 #[.agg #[.string nm, .int .i64 3, .string co, .int .i64 num, .slice exA exN exC], .slice lA lN lC, .slice oA oN oC, .int .i64 arg] w (yg9 kVal lN (yd6 os ⟨3,num,arg⟩ l) w):=by
 obtain ⟨w1,hm1,hS⟩:=ydm nm co 3 num exA exN exC lA lN lC arg w hn
 have HS:=qL hS
 have HL:=qL hl
 have LL:=qL hl.len
 have H12:=qL h12
 have HSU:=qL hsum
 have c1:=hS.bx.l
 clear hS hl h12 hsum
 go_enter Tryz.func265,Tryz.ntmps265
 go_wp2
 clear hm1
 go_loopw [13,14,24] (fun sm so i wr=> ∃ (k:Nat) (r:List Val),k<=lN/\i= .int .i64 k/\sm= .int .i64 (ydg arg l k)/\so= .bool (yc9 arg l k)/\Hid (CS w 3 num lA lN lC arg r wr)/\Hid (FilTo (yb7 os ⟨3,num,arg⟩ l) lN k r)/\Hid (∀ j,k<=j->j<lN->r[j]?=some zV)) (fun _ _ i _=>lN - (intOf i).toNat)
 case atStart=>exact ⟨0,_,by omega,rfl,rfl,rfl,HS,qL ⟨by rw [List.length_replicate],fun j hj=>absurd hj qF⟩,qL fun j _ hj=>by rw [List.getElem?_replicate,if_pos hj];rfl⟩
 case round=>
  obtain ⟨k,r,hk,rfl,rfl,rfl,HC,HP,HZ⟩:=hrel
  obtain ⟨wx,rfl⟩: ∃ wx,wx=wr:=⟨_,rfl⟩
  by_cases hlt:k<lN
  ·have g1:=HC.out.f
   have hrl:=HP.out.1
   have hbd:=yip HSU.out k
   have HAT:=qL (atX w.heap.size (k:Int) lA lN lC l arg wx HC.out.bx (HL.out.later HC.out.below) H12.out)
   have HVK:=qL (HSU.out (k:Int))
   have HSS:Hid (ydg arg l (k+1)=if (atW arg l k).k=0 then ydg arg l k else ydg arg l k+(atW arg l k).m):=qL rfl
   have HSM:Hid (yc9 arg l (k+1)=if (atW arg l k).k=0 then yc9 arg l k else true):=qL rfl
   have HCW:Hid (yb7 os ⟨3,num,arg⟩ l k=if yc9 arg l (k+1)=true then ya5 (ydg arg l (k+1)) else zV):=qL (yl5 os num arg l k)
   have HZ2: ∀ y,Hid (∀ j,k+1<=j->j<lN->(r.set k y)[j]?=some zV):=fun y=>qL fun j h1 h2=>by rw [List.getElem?_set,if_neg qF];exact HZ.out j qF h2
   have HZ3:Hid (∀ j,k+1<=j->j<lN->r[j]?=some zV):=qL fun j h1 h2=>HZ.out j qF h2
   obtain ⟨v,hv⟩: ∃ v,v=atW arg l (k:Int):=⟨_,rfl⟩
   rw [<-hv] at HAT HVK HSS HSM
   clear hv
   go_wp2_with fail
   refine HAT.out.mono ?_
   rintro e w5 ⟨rfl,hb5⟩
   have hb6:Below wx.heap.size wx (w5.alloc (.cells #[.int .i64 v.k, .int .i64 v.m, .string v.s] 46)):=hb5.alloc hb5.size _
   have HC6:=qL (HC.out.later hb6)
   have g1:=HC6.out.f
   clear hb5 hb6
   by_cases hz:v.k=0
   ·have e0:(v.k !=0)=false:=by simp [hz]
    have hs1:ydg arg l (k+1)=ydg arg l k:=by rw [HSS.out,if_pos hz]
    have hs2:yc9 arg l (k+1)=yc9 arg l k:=by rw [HSM.out,if_pos hz]
    rw [hs1,hs2] at HCW
    have H1:=qL hs1
    have H2:=qL hs2
    clear hs1 hs2 hz
    cases hso:yc9 arg l k
    ·have HFT:Hid (FilTo (yb7 os ⟨3,num,arg⟩ l) lN (k+1) r):=qL (HP.out.same (by rw [HCW.out,hso];exact HZ.out k (qV _) hlt))
     go_wp2
     go_roundw
     case rel=>exact ⟨k+1,r,by omega,by go_num,by rw [H1.out],by rw [H2.out,hso],HC6,HFT,HZ3⟩
     case measure=>simp [intOf];omega
    ·have HFT:Hid (FilTo (yb7 os ⟨3,num,arg⟩ l) lN (k+1) (r.set k (ya5 (ydg arg l k)))):=qL (by have h:=HP.out.put hlt;rw [HCW.out,hso,if_pos rfl] at h;exact h)
     go_wp2_with fail
     refine (ygl _ _).mono ?_
     rintro e w7 ⟨rfl,hb7⟩
     obtain ⟨⟨z1,z2,z3,zf⟩,W,hW,hcs⟩:=(HC6.out.later hb7).tail hrl hlt (ya5 (ydg arg l k))
     have T:=qL hcs
     clear hb7 hcs g1
     go_wp2
     rw [<-hW]
     go_roundw
     case rel=>exact ⟨k+1,_,by omega,by go_num,by rw [H1.out],by rw [H2.out,hso],T,HFT,HZ2 _⟩
     case measure=>simp [intOf];omega
   ·have e0:(v.k !=0)=true:=by simp [hz]
    obtain ⟨hk2,b1,b2⟩:v.k=2/\ -1073741824<=v.m/\v.m<=1073741824:=by
     rcases HVK.out with h|h
     ·exact absurd h hz
     ·exact h
    clear hk2
    have m1:IntKind.i64.wrap (ydg arg l k+v.m)=ydg arg l k+v.m:=by rw [IntKind.wrap_i64];omega
    have hs1:ydg arg l (k+1)=ydg arg l k+v.m:=by rw [HSS.out,if_neg hz]
    have hs2:yc9 arg l (k+1)=true:=by rw [HSM.out,if_neg hz]
    rw [hs1,hs2] at HCW
    have H1:=qL hs1
    have H2:=qL hs2
    have HFT:Hid (FilTo (yb7 os ⟨3,num,arg⟩ l) lN (k+1) (r.set k (ya5 (ydg arg l k+v.m)))):=qL (by have h:=HP.out.put hlt;rw [HCW.out,if_pos rfl] at h;exact h)
    clear hs1 hs2 hz
    go_wp2_with fail
    refine (ygl _ _).mono ?_
    rintro e w7 ⟨rfl,hb7⟩
    obtain ⟨⟨z1,z2,z3,zf⟩,W,hW,hcs⟩:=(HC6.out.later hb7).tail hrl hlt (ya5 (ydg arg l k+v.m))
    have T:=qL hcs
    clear hb7 hcs g1
    go_wp2
    rw [<-hW]
    go_roundw
    case rel=>exact ⟨k+1,_,by omega,by go_num,by rw [H1.out],by rw [H2.out],T,HFT,HZ2 _⟩
    case measure=>simp [intOf];omega
  ·obtain rfl:k=lN:=by omega
   have HD:=qL (HC.out.done HP.out LL.out)
   go_wp2
   go_ret
   exact HD.out
end
section
open Go.RowKit Go.BigFrame
def okFw (rows:List (List Val))(x:Itm)(g:Int):Prop:=x.f=1∨x.f=8∨x.f=9∨(x.f=10/\1<=x.num/\x.num<=4096)∨(x.f=3/\ ∀ r∈rows,(cel r g).k=0∨(cel r g).k=2)
theorem Yeu (a b:Int)(s:ByteArray)(W:World):(Instr.field 46 (.agg #[.int .i64 a, .int .i64 b, .string s]) 0).run Tryz.prog W= .ok (.int .i64 a) W:=by
 unfold Instr.field
 simp [go_sem]
 rfl
theorem Yi1 (iA:Option Addr)(iN iC:Nat)(its:List Itm)(aA:Option Addr)(aC:Nat)(args:List Int)(rA:Option Addr)(rN rC:Nat)(rows:List (List Val))(w:World)(hi:rItm w iA iN its)(ha:rInt w aA iN args)(hrw:rD kRow w rA rN rows)(h12: ∀ r∈rows,r.length<=12)(hn:iN<=100000)(hrn:rN<=100000)(hf: ∀ (j:Nat) x g,its[j]?=some x->args[j]?=some g->okFw rows x g):
 Calls Tryz.prog 263 #[.slice iA iN iC, .slice aA iN aC, .slice rA rN rC] w fun e w'=>e= .returned (.int .i64 0)/\Below w.heap.size w w':=by
 have HI:=qL hi
 have LI:=qL hi.len
 have HA:=qL ha
 have LA:=qL ha.len
 have HR:=qL hrw
 have LR:=qL hrw.len
 have H12:=qL h12
 have HF:=qL hf
 clear hi ha hrw h12 hf
 go_enter Tryz.func263,Tryz.ntmps263
 go_wp2
 go_loopw [19] (fun i wr=> ∃ k:Nat,k<=iN/\i= .int .i64 k/\Below w.heap.size w wr) (fun i _=>iN - (intOf i).toNat)
 case atStart=>exact ⟨0,by omega,rfl,za0 _⟩
 case round=>
  obtain ⟨k,hk,rfl,hbw⟩:=hrel
  obtain ⟨wx,rfl⟩: ∃ wx,wx=wr:=⟨_,rfl⟩
  by_cases hlt:k<iN
  ·obtain ⟨b1,o1,rfl,hci⟩:=HI.out.opn qF
   obtain ⟨x,hx⟩:=zah (l:=its) (k:=k) (by have:=LI.out;omega)
   obtain ⟨x1,x2,x3,x4,x5⟩:=hci k x hx
   obtain ⟨b2,o2,rfl,hca⟩:=HA.out.opn qF
   obtain ⟨g,hg⟩:=zah (l:=args) (k:=k) (by have:=LA.out;omega)
   have a1:w.cell? ⟨b2,o2+k,none⟩=some (.int .i64 g):=hca k g hg
   have hfx:=HF.out k x g hx hg
   have x1:=qM hbw x1
   have x2:=qM hbw x2
   have x3:=qM hbw x3
   have x4:=qM hbw x4
   have x5:=qM hbw x5
   have HBF:=qL (hbw.alloc hbw.size (.cells #[.string x.nm, .int .i64 x.f, .string x.co, .int .i64 x.num, .slice x.exA x.exN x.exC] 40))
   clear hci hca hx hg hbw
   rcases hfx with e|e|e|⟨e,n1,n2⟩|⟨e,hrows⟩
   ·rw [e] at x2 HBF
    clear e
    go_wp2
    go_roundw
    case rel=>exact ⟨k+1,by omega,by go_num,HBF.out⟩
    case measure=>simp [intOf];omega
   ·rw [e] at x2 HBF
    clear e
    go_wp2
    go_roundw
    case rel=>exact ⟨k+1,by omega,by go_num,HBF.out⟩
    case measure=>simp [intOf];omega
   ·rw [e] at x2 HBF
    clear e
    go_wp2
    go_roundw
    case rel=>exact ⟨k+1,by omega,by go_num,HBF.out⟩
    case measure=>simp [intOf];omega
   ·have d1:decide (x.num<1)=false:=by simp;omega
    have d2:decide (4096<x.num)=false:=by simp;omega
    rw [e] at x2 HBF
    clear e
    go_wp2
    go_roundw
    case rel=>exact ⟨k+1,by omega,by go_num,HBF.out⟩
    case measure=>simp [intOf];omega
   ·have HRW:=qL hrows
    rw [e] at x2 HBF
    clear e hrows
    go_wp2
    go_loopw [67] (fun jv wy=> ∃ j:Nat,j<=rN/\jv= .int .i64 j/\Below w.heap.size w wy) (fun jv _=>rN - (intOf jv).toNat)
    case atStart=>exact ⟨0,by omega,rfl,HBF.out⟩
    case round=>
     obtain ⟨j,hj,rfl,hby⟩:=hrel
     obtain ⟨wy,rfl⟩: ∃ wy,wy=wr:=⟨_,rfl⟩
     by_cases hjl:j<rN
     ·obtain ⟨b3,o3,rfl,hcr⟩:=HR.out.opn qF
      obtain ⟨r,hr⟩:=zah (l:=rows) (k:=j) (by have:=LR.out;omega)
      obtain ⟨⟨qA,qN,qC⟩,r3,rcell⟩:=hcr j r hr
      have y1:=rcell 0 (.slice qA qN qC) (by show 0<1;omega) rfl
      have y1:=qM hby (show w.cell? ⟨b3,o3+j,none⟩=some (.slice qA qN qC) by rw [show o3+j=o3+j*kRow.C+0 by show o3+j=o3+j*1+0;omega];exact y1)
      have a2:=qM hby a1
      have hmm:=qP hr
      have hqN:qN<=100000:=by have:=(show rVal w qA qN r from r3).len;have:=H12.out r hmm;omega
      have HC:=qL (yrh qA qN qC r g wy ((show rVal w qA qN r from r3).later hby) hqN)
      have HV:=qL (HRW.out r hmm)
      obtain ⟨⟨vk,vm,vs⟩,hv⟩: ∃ v,v=cel r g:=⟨_,rfl⟩
      rw [<-hv] at HC HV
      have HBY:=qL hby
      clear hcr hr r3 rcell hmm hv hby x1 x2 x3 x4 x5
      have hvk:vk=0∨vk=2:=HV.out
      have hfld:=Yeu vk vm vs
      rcases hvk with rfl|rfl
      all_goals
       go_wp2_with fail
       refine HC.out.mono ?_
       rintro e w5 ⟨rfl,hb5⟩
       have HB5:=qL (btr HBY.out hb5)
       clear hb5 y1 a2
       go_wp2
       go_roundw
       case rel=>exact ⟨j+1,by omega,by go_num,HB5.out⟩
       case measure=>simp [intOf];omega
     ·obtain rfl:j=rN:=by omega
      clear x1 x2 x3 x4 x5
      go_wp2
      go_roundw
      case rel=>exact ⟨k+1,by omega,by go_num,hby⟩
      case measure=>simp [intOf];omega
  ·obtain rfl:k=iN:=by omega
   go_wp2
   go_ret
   exact ⟨zak rfl,hbw⟩
theorem yiq {v:Val}(h:yab v=true)(hk:v.k=2): -1073741824<=v.m/\v.m<=1073741824:=by
 unfold yab at h
 rw [if_neg qF,if_neg qF,if_pos hk] at h
 simp only [Bool.and_eq_true,decide_eq_true_eq] at h
 exact ⟨h.1.2,h.2⟩
theorem yll {arg:Int}{l:List (List Val)}(hv: ∀ r∈l,vOk r)(hk: ∀ r∈l,(cel r arg).k=0∨(cel r arg).k=2):yp1 arg l:=fun i=>by
 by_cases hin:0<=i/\i<(l.length:Int)
 ·obtain ⟨j,rfl⟩: ∃ j:Nat,i=(j:Int):=⟨i.toNat,by omega⟩
  obtain ⟨r,hr⟩:=zah (l:=l) (k:=j) qF
  rw [yhw hr]
  rcases hk r (qP hr) with h|h
  ·exact .inl h
  ·exact .inr ⟨h,yiq (zqp (hv r (qP hr)) _) h⟩
 ·rw [yf0 qF]
  exact .inl rfl
theorem ynt (nm co:ByteArray)(f num:Int)(exA:Option Addr)(exN exC:Nat)(lA:Option Addr)(lN lC:Nat)(oA:Option Addr)(oN oC:Nat)(arg:Int)(os:List Int)(l:List (List Val))(w:World)(hl:rD kRow w lA lN l)(h12: ∀ r∈l,r.length<=12/\vOk r)(ho:rInt w oA oN os)(hoN:oN<=12)(hn:lN<=4096)(hf:f=1∨f=8∨f=9∨(f=10/\1<=num/\num<=4096)∨(f=3/\ ∀ r∈l,(cel r arg).k=0∨(cel r arg).k=2)):
 Calls Tryz.prog 265 #[.agg #[.string nm, .int .i64 f, .string co, .int .i64 num, .slice exA exN exC], .slice lA lN lC, .slice oA oN oC, .int .i64 arg] w (yg9 kVal lN (yd6 os ⟨f,num,arg⟩ l) w):=by
 have a:=fun r hr=>(h12 r hr).1
 rcases hf with rfl|rfl|rfl|⟨rfl,h1,h2⟩|⟨rfl,h⟩
 ·exact yh1 nm co 1 num exA exN exC lA lN lC oA oN oC arg os l w hl.len (.inl rfl) hn
 ·exact yh1 nm co 8 num exA exN exC lA lN lC oA oN oC arg os l w hl.len (.inr rfl) hn
 ·exact ynr nm co num exA exN exC lA lN lC oA oN oC arg os l w hl a ho hoN hn
 ·exact ynq nm co num exA exN exC lA lN lC oA oN oC arg os l w hl a hn ⟨h1,h2⟩
 ·exact yns nm co num exA exN exC lA lN lC oA oN oC arg os l w hl a hn (yll (fun r hr=>(h12 r hr).2) h)
end
section
open Go.RowKit Go.BigFrame
structure okWinX (ps os:List Int)(its:List Itm)(args:List Int)(t:Tab):Prop where
 alen:args.length=its.length
 n12: ∀ x∈t,x.1.length+its.length<=12
 i12:its.length<=12
 p12:ps.length<=12
 o12:os.length<=12
 tab:ybi t
 sum:yac t<=4096
 fn: ∀ (j:Nat) (x:Itm) (g:Int),its[j]?=some x->args[j]?=some g->okFw (yba t) x g
theorem yg6 {ps os:List Int}{t:Tab}{k:Nat}{l:List (List Val)}(h:(yc5 ps os t)[k]?=some l){r:List Val}(hr:r∈l):r∈yba t:=by
 have hm:=qP h
 rw [ydw] at hm
 obtain ⟨p,hp,rfl⟩:=List.mem_map.1 hm
 have h2:=(ya7 os (yap p)).subset hr
 obtain ⟨z,hz,e2⟩:=List.mem_map.1 h2
 obtain ⟨h3,_⟩:=((ybj ps (yca t)).mem hp).1 hz
 exact List.mem_map.2 ⟨z,h3,e2⟩
theorem yq7 (iA pA oA aA A:Option Addr)(iN iC pN pC oN oC aN aC n c:Nat)(its:List Itm)(ps os args:List Int)(t:Tab)(w:World)
 (hi:rItm w iA iN its) (hp:rInt w pA pN ps) (ho:rInt w oA oN os) (ha:rInt w aA aN args) (ht:rTab w A n t) (hok:okWinX ps os its args t):
 Calls Tryz.prog 217 #[.slice iA iN iC, .slice pA pN pC, .slice oA oN oC, .slice aA aN aC, .slice A n c] w (ye6 (yhl ps os (yan its args) t) w):=by
 have HI:=qL hi
 have HO:=qL ho
 have HA:=qL ha
 have HK:=qL hok
 have LI:=qL hi.len
 have hop12:oN<=12:=by have:=ho.len;have:=hok.o12;omega
 have hpp12:pN<=12:=by have:=hp.len;have:=hok.p12;omega
 have hi12:iN<=12:=by have:=hi.len;have:=hok.i12;omega
 obtain rfl:aN=iN:=by have:=hi.len;have:=ha.len;have:=hok.alen;omega
 have HX:=qL (yn6 A n c t w ht hok.tab hok.sum)
 have HP:=qL hp
 have H12:Hid (∀ r∈yba t,r.length<=12/\vOk r):=qL fun r hr=>by
  obtain ⟨y,hy,rfl⟩:=List.mem_map.1 hr
  obtain ⟨_,x,hx,_,e⟩:=ybt.1 hy
  rw [<-e]
  exact ⟨(hok.tab.1.2.2 x hx).1,(hok.tab.1.2.2 x hx).2.2.2⟩
 have HLN:Hid (((yba t).length:Int)<=4096):=qL (by rw [yfp hok.tab.2];exact hok.sum)
 clear hi hp ho ha ht hok
 go_enter Tryz.func217,Tryz.ntmps217
 go_wp2_with fail
 refine HX.out.mono ?_
 rintro e w1 ⟨A1,m1,c1,rfl,hrd1,hcc1,hb1⟩
 have HR1:=qL hrd1
 have HB1:=qL hb1
 have hm1:m1<=4096:=by have:=hrd1.len;have:=HLN.out;omega
 have HCK:=qL (Yi1 iA aN iC its aA aC args A1 m1 c1 (yba t) w1 (HI.out.later hb1) (HA.out.later hb1) hrd1 (fun r hr=>(H12.out r hr).1) qF qF HK.out.fn)
 clear hrd1 hb1
 go_wp2_with fail
 refine HCK.out.mono ?_
 rintro e w2 ⟨rfl,hb2⟩
 have HB2:=qL (btr HB1.out hb2)
 have HPT:=qL (ygb A1 m1 c1 (yba t) pA pN pC ps oA oN oC os w2 (HR1.out.later hb2) (HP.out.later HB2.out) (HO.out.later HB2.out) hm1 hpp12 hop12 (fun r hr=>(H12.out r hr).1) (fun r hr=>(H12.out r hr).2))
 clear hb2
 go_wp2_with fail
 refine HPT.out.mono ?_
 rintro e w3 ⟨A3,n3,c3,qs,rfl,hqs,hb3⟩
 have hqs2:QS 261 w3 w2.heap.size (w2.heap.size+2) (.slice A3 n3 c3) qs (yc5 ps os t):=hqs
 have HQ:=qL hqs2
 have HB3:=qL (btr HB2.out hb3)
 have HQL:Hid (qs.length=(yc5 ps os t).length):=qL hqs2.len.symm
 obtain rfl:n3=qs.length:=by
  have h:=hqs2.own
  rcases Nat.eq_zero_or_pos qs.length with h0|h0
  ·obtain ⟨A',c',e,_⟩:=zd9 h
   injection e with _ e _
  ·obtain ⟨g,cc,e,_⟩:=World.ownsRow.form h h0
   injection e with _ e _
 have HTOT:Hid ((yca t).length<=4096):=qL (by have:=HLN.out;unfold yba at this;rw [List.length_map] at this;omega)
 have hql:qs.length<=4096:=by
  have h1:=HQL.out
  have h2:=ydw ps os t
  have h3:=yek ps (yca t)
  rw [h1,h2,List.length_map]
  have:=HTOT.out
  omega
 obtain ⟨iE,PE⟩:=zpw w3.heap.size
 obtain ⟨iV,PV⟩:=yy8
 have HWL:Hid ((yan its args).length=aN):=qL (by rw [yg7 HK.out.alen];exact LI.out)
 clear hqs hqs2 hb3 HX HCK HPT HP HR1
 go_wp2
 go_loopw [15,45] (fun v iv wr=> ∃ k:Nat,k<=qs.length/\iv= .int .i64 k/\Below w3.heap.size w3 wr/\Hid (ownD (ybb w3.heap.size) wr w3.heap.size v (yd2 os (yan its args) ((yc5 ps os t).take k)).length (yd2 os (yan its args) ((yc5 ps os t).take k)))) (fun _ iv _=>qs.length - (intOf iv).toNat)
 case atStart=>exact ⟨0,by omega,rfl,za0 _,qL (ownD.nil _ _)⟩
 case round=>
  obtain ⟨k,hk,rfl,hbw,HOU⟩:=hrel
  obtain ⟨wo,rfl⟩: ∃ wo,wo=wr:=⟨_,rfl⟩
  have HBW:=qL hbw
  by_cases hlt:k<qs.length
  ·obtain ⟨⟨sA,sN,sC⟩,hq⟩:=zah (l:=qs) (k:=k) hlt
   obtain ⟨l,hl⟩:=zah (l:=yc5 ps os t) (k:=k) (by have:=HQL.out;omega)
   have HQW:=HQ.out.later hbw
   obtain ⟨g,rfl,_,p2⟩:=HQW.cell hq
   have HL:=qL hl
   obtain ⟨hrow,hlen⟩:=HQW.row hq hl
   have HROW:Hid (rD kRow w3 sA sN l):=qL (HQ.out.row hq hl).1
   have hlen:l.length=sN:=hlen
   have HSN:=qL (yzq hl (yan its args))
   have hsn:sN<=4096:=by have:=HSN.out;have:=HTOT.out;omega
   have HLEN:=qL hlen
   have HV0:Hid (∀ j,u15.ownBlock=some j->w3.heap.size<=j/\j<wo.heap.size):=qL HOU.out.lt
   obtain ⟨iR,PR⟩:=Yhu wo.heap.size
   clear hq hl HQW hrow hbw
   go_wp2
   go_loopw [18,51] (fun v jv wx=> ∃ j:Nat,j<=aN/\jv= .int .i64 j/\Below wo.heap.size wo wx/\Hid (ownD (yid wo.heap.size) wx wo.heap.size v j (((yan its args).take j).map fun x=>yd6 os x l))) (fun _ jv _=>aN - (intOf jv).toNat)
   case atStart=>exact ⟨0,by omega,rfl,za0 _,qL (ownD.nil _ _)⟩
   case round=>
    obtain ⟨j,hj,rfl,hbx,HOX⟩:=hrel
    have HBX:=qL hbx
    by_cases hjl:j<aN
    ·obtain ⟨b1,o1,rfl,hci⟩:=HI.out.opn qF
     obtain ⟨x,hx⟩:=zah (l:=its) (k:=j) (by have:=LI.out;omega)
     obtain ⟨x1,x2,x3,x4,x5⟩:=hci j x hx
     obtain ⟨b2,o2,rfl,hca⟩:=HA.out.opn qF
     obtain ⟨ga,hga⟩:=zah (l:=args) (k:=j) (by have:=LI.out;have:=HK.out.alen;omega)
     have a1:w.cell? ⟨b2,o2+j,none⟩=some (.int .i64 ga):=hca j ga hga
     have bX:Below w.heap.size w wr:=btr HB3.out (btr HBW.out hbx)
     have z1:=qM bX x1
     have z2:=qM bX x2
     have z3:=qM bX x3
     have z4:=qM bX x4
     have z5:=qM bX x5
     have za:=qM bX a1
     have hfx0:=HK.out.fn j x ga hx hga
     have hfx:x.f=1∨x.f=8∨x.f=9∨(x.f=10/\1<=x.num/\x.num<=4096)∨(x.f=3/\ ∀ r∈l,(cel r ga).k=0∨(cel r ga).k=2):=by
      rcases hfx0 with e|e|e|e|⟨e,h⟩
      ·exact .inl e
      ·exact .inr (.inl e)
      ·exact .inr (.inr (.inl e))
      ·exact .inr (.inr (.inr (.inl e)))
      ·exact .inr (.inr (.inr (.inr ⟨e,fun r hr=>h r (yg6 HL.out hr)⟩)))
     have HFX:=qL hfx
     clear hfx hfx0
     have HGET:=qL (ylw hx hga)
     have HV1:Hid (∀ y,u18.ownBlock=some y->wo.heap.size<=y/\y<wr.heap.size):=qL HOX.out.lt
     have hszb:=hbx.size
     have HA2:Hid (b2<wo.heap.size):=qL (qQ (qX _ _ a1) (btr HB3.out HBW.out).size)
     clear hci hca hx hga x1 x2 x3 x4 x5 a1 bX hbx
     go_wp2
     have HAB:Hid (Below wo.heap.size wo (wr.alloc (.cells #[.string x.nm, .int .i64 x.f, .string x.co, .int .i64 x.num, .slice x.exA x.exN x.exC] 40))):=qL (HBX.out.alloc HBX.out.size _)
     have k0:(wr.alloc (.cells #[.string x.nm, .int .i64 x.f, .string x.co, .int .i64 x.num, .slice x.exA x.exN x.exC] 40)).drew.cell? ⟨wr.heap.size,0,none⟩=some (.string x.nm):=by show (wr.alloc _).cell? _=_;simp
     have k1:(wr.alloc (.cells #[.string x.nm, .int .i64 x.f, .string x.co, .int .i64 x.num, .slice x.exA x.exN x.exC] 40)).drew.cell? ⟨wr.heap.size,1,none⟩=some (.int .i64 x.f):=by show (wr.alloc _).cell? _=_;simp
     have k2:(wr.alloc (.cells #[.string x.nm, .int .i64 x.f, .string x.co, .int .i64 x.num, .slice x.exA x.exN x.exC] 40)).drew.cell? ⟨wr.heap.size,2,none⟩=some (.string x.co):=by show (wr.alloc _).cell? _=_;simp
     have k3:(wr.alloc (.cells #[.string x.nm, .int .i64 x.f, .string x.co, .int .i64 x.num, .slice x.exA x.exN x.exC] 40)).drew.cell? ⟨wr.heap.size,3,none⟩=some (.int .i64 x.num):=by show (wr.alloc _).cell? _=_;simp
     have k4:(wr.alloc (.cells #[.string x.nm, .int .i64 x.f, .string x.co, .int .i64 x.num, .slice x.exA x.exN x.exC] 40)).drew.cell? ⟨wr.heap.size,4,none⟩=some (.slice x.exA x.exN x.exC):=by show (wr.alloc _).cell? _=_;simp
     have ka:(wr.alloc (.cells #[.string x.nm, .int .i64 x.f, .string x.co, .int .i64 x.num, .slice x.exA x.exN x.exC] 40)).drew.cell? ⟨b2,o2+j,none⟩=some (.int .i64 ga):=by show (wr.alloc _).cell? _=_;exact qM (zae _ _) za
     have hne:some wr.heap.size≠u18.ownBlock:=fun e=>by have:=(HV1.out _ e.symm).2;omega
     have hnb:some b2≠u18.ownBlock:=fun e=>by have h1:=(HV1.out _ e.symm).1;have h2:=HA2.out;omega
     have hj1:j<1000000:=by omega
     clear z1 z2 z3 z4 z5 za
     go_region_held3 (fun w'=>Below wo.heap.size wo w'/\w'.cell? ⟨wr.heap.size,0,none⟩=some (.string x.nm)/\w'.cell? ⟨wr.heap.size,1,none⟩=some (.int .i64 x.f)/\w'.cell? ⟨wr.heap.size,2,none⟩=some (.string x.co)/\w'.cell? ⟨wr.heap.size,3,none⟩=some (.int .i64 x.num)/\w'.cell? ⟨wr.heap.size,4,none⟩=some (.slice x.exA x.exN x.exC)/\w'.cell? ⟨b2,o2+j,none⟩=some (.int .i64 ga))
      ((go_split_ands;refine ⟨?_,?_,?_,?_,?_,?_,?_⟩<;>(with_reducible first |exact HAB.out.drew|exact k0|exact k1|exact k2|exact k3|exact k4|exact ka|(refine Below.alloc ?_ (Below.size qI) _;assumption)|exact qM (zae _ _) qI|(exact zaf qI qI (fun k e=>(HV1.out k e).1))|exact World.grownBy.cell qI qI hne|exact World.grownBy.cell qI qI hnb|(refine btr ?_ qI;assumption)|exact qM qI qI)))
      (first
       |(go_at_call 265;go_split_ands;(with_reducible refine (ynt x.nm x.co x.f x.num x.exA x.exN x.exC sA sN sC oA oN oC ga os l _ (HROW.out.later (btr HBW.out qI)) (fun r hr=>H12.out r (yg6 HL.out hr)) (HO.out.later (btr HB3.out (btr HBW.out qI))) hop12 hsn HFX.out).mono ?_);rintro e w' ⟨A5,c5,rfl,hrd5,hcc5,hb5,hfr5,hown5⟩;have HB5:=qL (btr (zae wr _) (zap hb5));have HSZ5:=qL (qR HBX.out.size HB5.out.size);have HF1:=qL (zb3 (n:=sN) (w1:=wr) (fun k e=>(HV1.out k e).2) (fun a e=>qR (zae wr _).size (hfr5 a e).1));have HF2:Hid (∀ a,A5=some a->wo.heap.size<=a.block):=qL (fun a e=>qR HAB.out.size (hfr5 a e).1);have HF3:Hid (ownD (yid wo.heap.size) (w'.alloc (.cells #[.slice A5 sN c5] 63)) wo.heap.size u18 j (((yan its args).take j).map fun x=>yd6 os x l)):=qL (HOX.out.later (HB5.out.alloc HB5.out.size _));have HF4:=qL (zb4.1 (hrd5.later (zae _ (.cells #[.slice A5 sN c5] 63)))))
       |((refine za3 _ qJ _ _ qJ PR HF3.out ⟨_,0,none⟩ (A5,sN,c5) (yd6 os ⟨x.f,x.num,ga⟩ l) qJ qJ (yey _ _ _ _ _) ⟨HF4.out,fun _ a e=>HF2.out a e⟩ HF1.out hj1 (qR HSZ5.out (zae _ _).size) ?_;intro v' w' hown' hgrow hat)))
     go_split_ands
     have HBF:Hid (Below wo.heap.size wo w'):=qL qI
     have HOF:Hid (ownD (yid wo.heap.size) w' wo.heap.size v' (j+1) (((yan its args).take (j+1)).map fun x=>yd6 os x l)):=qL (by rw [zbc HGET.out,List.map_append];exact hown')
     clear hown' hgrow hat hown5 hrd5 hfr5 hb5
     go_wp2
     go_roundw
     case rel=>exact ⟨j+1,by omega,by go_num,HBF.out,HOF⟩
     case measure=>simp [intOf];omega
    ·obtain rfl:j=aN:=by omega
     obtain ⟨A5,c5,rfl,hcc5,hrd5,hfr5⟩:=HOX.out.rd
     have HTJ:(yan its args).take j=yan its args:=List.take_of_length_le (by have:=HWL.out;omega)
     rw [HTJ] at hrd5
     have HCO:=qL hrd5
     have HCF:Hid (0<j-> ∀ a,A5=some a->wo.heap.size<=a.block):=qL fun _ a e=>(hfr5 a e).1
     obtain ⟨wq,rfl⟩: ∃ wq,wq=wr:=⟨_,rfl⟩
     have HBQ:=qL (btr HBW.out hbx)
     have hszq:=hbx.size
     have HOQ:=qL (HOU.out.later hbx)
     clear hrd5 hfr5 hbx HTJ HOX
     go_wp2
     go_loopw [15,70] (fun v pv wx=> ∃ p:Nat,p<=sN/\pv= .int .i64 p/\Below w3.heap.size w3 wx/\wq.heap.size<=wx.heap.size/\Hid (∀ b,wo.heap.size<=b->b<wq.heap.size->wx.heap[b]?=wq.heap[b]?)/\Hid (∀ y,v.ownBlock=some y->y<wo.heap.size∨wq.heap.size<=y)/\Hid (ownD (ybb w3.heap.size) wx w3.heap.size v ((yd2 os (yan its args) ((yc5 ps os t).take k)).length+p) (yd2 os (yan its args) ((yc5 ps os t).take k)++(yfw os (yan its args) l).take p))) (fun _ pv _=>sN - (intOf pv).toNat)
     case atStart=>exact ⟨0,by omega,rfl,HBQ.out,qV _,qL fun _ _ _=>rfl,qL fun y hy=> .inl (HV0.out y hy).2,qL (by simpa using HOQ.out)⟩
     case round=>
      obtain ⟨p,hp,rfl,hbx,hsx,HSM,HNB,HOP⟩:=hrel
      obtain ⟨wx,rfl⟩: ∃ wx,wx=wr:=⟨_,rfl⟩
      have HBX:=qL hbx
      by_cases hpl:p<sN
      ·obtain ⟨b4,o4,rfl,hcr⟩:=HROW.out.opn qF
       obtain ⟨r,hr⟩:=zah (l:=l) (k:=p) qF
       obtain ⟨⟨rA,rN,rC⟩,y3,hcell⟩:=hcr p r hr
       have y1:=hcell 0 (.slice rA rN rC) (by show 0<1;omega) rfl
       have y1:w3.cell? ⟨b4,o4+p,none⟩=some (.slice rA rN rC):=by rw [show o4+p=o4+p*kRow.C+0 by show o4+p=o4+p*1+0;omega];exact y1
       have Y3:Hid (rVal w3 rA rN r):=qL y3
       have z1:=qM hbx y1
       have HR:=qL hr
       have hrm:rN+j<=12:=by
        have h1:=Y3.out.len
        obtain ⟨z,hz,_,e⟩:=yp0 (qP HL.out) (qP hr)
        have h2:=HK.out.n12 z hz
        have h3:=LI.out
        rw [e] at h2
        omega
       have HCL:=qL (yjd rA rN rC r wx (zb4.2 (Y3.out.later hbx)) qF)
       have HCW:Hid (rD kRow wx A5 j ((yan its args).map fun x=>yd6 os x l)):=qL (ygf HCO.out HCF.out HSM.out)
       have HV2:Hid (∀ y,u15.ownBlock=some y->w3.heap.size<=y/\y<wx.heap.size):=qL HOP.out.lt
       clear hcr hr hcell y1 y3 hbx
       go_wp2_with fail
       refine HCL.out.mono ?_
       rintro e w6 ⟨A6,c6,rfl,hrd6,hcc6,hb6,hfr6,hown6⟩
       have HB6:=qL hb6
       have HOW:=qL hown6
       clear hrd6 hb6 hfr6 hown6
       go_wp2
       go_loopw [22,79] (fun v qv wy=> ∃ q:Nat,q<=j/\qv= .int .i64 q/\Below wx.heap.size wx wy/\Hid (ownD kVal wy wx.heap.size v (rN+q) (r++ye1 os ((yan its args).take q) l p))) (fun _ qv _=>j - (intOf qv).toNat)
       case atStart=>exact ⟨0,by omega,rfl,HB6.out,qL (by have:=HOW.out;simpa [ye1] using this)⟩
       case round=>
        obtain ⟨q,hq,rfl,hby,HOY⟩:=hrel
        have HBY:=qL hby
        by_cases hql2:q<j
        ·obtain ⟨b7,o7,rfl,hcc⟩:=HCW.out.opn qF
         obtain ⟨it,hit⟩:=zah (l:=yan its args) (k:=q) (by have:=HWL.out;omega)
         obtain ⟨⟨vA,vN,vC⟩,y3,hcell⟩:=hcc q (yd6 os it l) (by rw [List.getElem?_map,hit];rfl)
         have y1:=hcell 0 (.slice vA vN vC) (by show 0<1;omega) rfl
         have y1:wx.cell? ⟨b7,o7+q,none⟩=some (.slice vA vN vC):=by rw [show o7+q=o7+q*kRow.C+0 by show o7+q=o7+q*1+0;omega];exact y1
         have y3:rVal wx vA vN (yd6 os it l):=y3
         have hvn:vN=sN:=by have h1:=y3.len;rw [yjh] at h1;omega
         subst hvn
         obtain ⟨b8,o8,rfl,hc8⟩:=y3.opn qF
         obtain ⟨v1,v2,v3⟩:=hc8 p (yb7 os it l p) (yjg qF)
         have q1:=qM hby y1
         have u1:=qM hby v1
         have u2:=qM hby v2
         have u3:=qM hby v3
         obtain ⟨⟨av,am,as'⟩,hav⟩: ∃ a:Val,a=yb7 os it l p:=⟨_,rfl⟩
         rw [<-hav] at u1 u2 u3
         have HEX:Hid (ye1 os ((yan its args).take (q+1)) l p=ye1 os ((yan its args).take q) l p++ [⟨av,am,as'⟩]):=qL (by rw [yh4 hit,<-hav])
         have HVX:=qL HOY.out.lt
         have hp1:(p:Int)<(vN:Int):=by omega
         have HOA:Hid (ownD kVal (wr.alloc (.cells #[.int .i64 av, .int .i64 am, .string as'] 46)) wx.heap.size u22 (rN+q) (r++ye1 os ((yan its args).take q) l p)):=qL (HOY.out.later (zae _ _))
         have HN1:rN+q<1000000:=by omega
         have HSZ1:wx.heap.size<=(wr.alloc (.cells #[.int .i64 av, .int .i64 am, .string as'] 46)).heap.size:=by have:=hby.size;simp;omega
         have HFF:Hid (yau (kVal.ptrs ⟨av,am,as'⟩) u22.ownBlock):=qL (fun p hp=>by change p∈ [] at hp;cases hp)
         clear hcc hit hcell y1 y3 hc8 v1 v2 v3 hav hby
         go_wp2_with (at_builtin;refine zaq _ rfl _ _ rfl PV HOA.out ⟨_,0,none⟩ ⟨av,am,as'⟩ ⟨av,am,as'⟩ rfl rfl (zbl _ _ _ _ _) rfl HFF.out HN1 HSZ1 ?_;intro v' w' hown' hgrow hat)
         have HBF:=qL (zaf (HBY.out.alloc HBY.out.size _) hgrow (fun y e=>(HVX.out y e).1))
         have HOF:Hid (ownD kVal w' wx.heap.size v' (rN+(q+1)) (r++ye1 os ((yan its args).take (q+1)) l p)):=qL (by rw [HEX.out,<-List.append_assoc];exact hown')
         clear hown' hgrow hat
         go_wp2
         go_roundw
         case rel=>exact ⟨q+1,by omega,by go_num,HBF.out,HOF⟩
         case measure=>simp [intOf];omega
        ·obtain rfl:q=j:=by omega
         obtain ⟨A7,c7,rfl,hcc7,hrd7,hfr7⟩:=HOY.out.rd
         have HIT:(yan its args).take q=yan its args:=List.take_of_length_le (by have:=HWL.out;omega)
         rw [HIT] at hrd7
         have HR7:=qL (zb4.1 hrd7)
         have HFR7:=qL hfr7
         have HBY3:=qL (btr HBX.out hby)
         have HOA:Hid (ownD (ybb w3.heap.size) (wr.alloc (.cells #[.slice A7 (rN+q) c7, .int .i64 1] 65)) w3.heap.size u15 ((yd2 os (yan its args) ((yc5 ps os t).take k)).length+p) (yd2 os (yan its args) ((yc5 ps os t).take k)++(yfw os (yan its args) l).take p)):=qL ((HOP.out.later hby).later (zae _ _))
         have HRA:Hid (dEnt (wr.alloc (.cells #[.slice A7 (rN+q) c7, .int .i64 1] 65)) ⟨A7,rN+q,c7,1⟩ (r++ye1 os (yan its args) l p,1)/\(0<rN+q-> ∀ a,A7=some a->w3.heap.size<=a.block)):=qL ⟨⟨HR7.out.later (zae _ _),rfl⟩,fun _ a e=>by have:=(HFR7.out a e).1;have:=HBX.out.size;omega⟩
         have HFF:=qL (zb3 (n:=rN+q) (w1:=wx) (fun k e=>(HV2.out k e).2) (fun a e=>(HFR7.out a e).1))
         have HSZ:w3.heap.size<=(wr.alloc (.cells #[.slice A7 (rN+q) c7, .int .i64 1] 65)).heap.size:=qR HBY3.out.size (zae _ _).size
         have HBYX:=qL hby
         have hnl:(yd2 os (yan its args) ((yc5 ps os t).take k)).length+p<1000000:=by have:=HSN.out;have:=HTOT.out;omega
         clear hrd7 hfr7 hby HIT HOY
         go_wp2_with (at_builtin;refine zaq _ rfl _ _ rfl PE HOA.out ⟨_,0,none⟩ ⟨A7,rN+q,c7,1⟩ (r++ye1 os (yan its args) l p,1) rfl rfl (zan _ _ _ _ _ _) HRA.out HFF.out hnl HSZ ?_;intro v' w' hown' hgrow hat)
         have HBF:=qL (zaf (HBY3.out.alloc HBY3.out.size _) hgrow (fun y e=>(HV2.out y e).1))
         have HOF:Hid (ownD (ybb w3.heap.size) w' w3.heap.size v' ((yd2 os (yan its args) ((yc5 ps os t).take k)).length+(p+1)) (yd2 os (yan its args) ((yc5 ps os t).take k)++(yfw os (yan its args) l).take (p+1))):=qL (by rw [yii HR.out,<-List.append_assoc];exact hown')
         have HSMF:Hid (∀ b,wo.heap.size<=b->b<wq.heap.size->w'.heap[b]?=wq.heap[b]?):=qL fun b h1 h2=>by
          rw [hgrow.block b (by have:=HBYX.out.size;simp;omega) (fun e=>by rcases HNB.out b e.symm with h|h<;>omega),(zae wr (.cells #[.slice A7 (rN+q) c7, .int .i64 1] 65)).block b (by have:=HBYX.out.size;omega),HBYX.out.block b qF]
          exact HSM.out b h1 h2
         have HNBF:Hid (∀ y,v'.ownBlock=some y->y<wo.heap.size∨wq.heap.size<=y):=qL fun y hy=>by
          rcases hat with h|h
          ·rw [h] at hy;exact HNB.out y hy
          ·rw [h] at hy
           injection hy with hy
           have:=HBYX.out.size
           simp at hy
           right;omega
         have hszf:wq.heap.size<=w'.heap.size:=by have h1:=hgrow.size;have h2:=HBYX.out.size;simp at h1;omega
         clear hown' hgrow hat
         go_wp2
         go_roundw
         case rel=>exact ⟨p+1,by omega,by go_num,HBF.out,hszf,HSMF,HNBF,HOF⟩
         case measure=>simp [intOf];omega
      ·obtain rfl:p=sN:=by omega
       have eall:(yfw os (yan its args) l).take p=yfw os (yan its args) l:=List.take_of_length_le (by rw [yg0];omega)
       have HOF:Hid (ownD (ybb w3.heap.size) wx w3.heap.size u15 (yd2 os (yan its args) ((yc5 ps os t).take (k+1))).length (yd2 os (yan its args) ((yc5 ps os t).take (k+1)))):=qL (za2 HOP.out (by rw [yly HL.out,eall]))
       clear eall
       go_wp2
       go_roundw
       case rel=>exact ⟨k+1,by omega,by go_num,hbx,HOF⟩
       case measure=>simp [intOf];omega
  ·obtain rfl:k=qs.length:=by omega
   have HTT:yd2 os (yan its args) ((yc5 ps os t).take qs.length)=ycj ps os (yan its args) t:=by rw [List.take_of_length_le (by have:=HQL.out;omega),yg8]
   obtain ⟨A8,c8,rfl,hcc8,hrd8,hfr8⟩:=HOU.out.rd
   have hrd9:rD (ybb w3.heap.size) wo A8 (yd2 os (yan its args) ((yc5 ps os t).take qs.length)).length (ycj ps os (yan its args) t):=by
    have h:=hrd8
    rw [HTT] at h ⊢
    exact h
   have HRG:Hid (∀ y∈ycj ps os (yan its args) t,y.1.length<=12/\vOk y.1/\y.2=1):=qL fun y hy=>ygx (fun x hx=>by rw [yg7 HK.out.alen];exact HK.out.n12 x hx) (fun x hx=>(HK.out.tab.1.2.2 x hx).2.2.2) hy
   have HLW:Hid ((ycj ps os (yan its args) t).length<=4096):=qL (by rw [yfd];exact HTOT.out)
   have H:=qL (yl3 A8 (yd2 os (yan its args) ((yc5 ps os t).take qs.length)).length c8 (ycj ps os (yan its args) t) wo (rTabF.tab ⟨hrd9,fun _ a e=>(hfr8 a e).1⟩) (by rw [HTT];exact HLW.out) (fun y hy=>by rw [(HRG.out y hy).2.2];omega) (by rw [ydx fun y hy=>(HRG.out y hy).2.2];have:=HLW.out;omega) (fun y hy=>(HRG.out y hy).1) (fun y hy=>(HRG.out y hy).2.1))
   clear hrd8 hrd9 hfr8 HTT
   go_wp2_with fail
   refine H.out.mono ?_
   rintro e w5 ⟨A9,n9,c9,rfl,hr9,hc9,hb9⟩
   have HR9:=qL hr9
   have HB9:=qL (btr HB3.out (btr hbw hb9))
   have HSZ:=qL (qR HB3.out.size hbw.size)
   clear hr9 hb9
   go_wp2
   go_ret2
   exact ⟨_,_,_,rfl,HR9.out.mono HSZ.out,hc9,HB9.out⟩
end
end Go.Proofs.YthcalfeoejdcgaaGreatDoor
