import Derived.Test.YthcalfeoejdcgaaGreatDoorK11
import Derived.Deep.RegionLaw
import Derived.BigQuiet
import Derived.Laws.Concat
namespace Go.Proofs.YthcalfeoejdcgaaGreatDoor
set_option linter.unusedSimpArgs false
set_option linter.unusedVariables false
set_option maxRecDepth 100000
set_option maxHeartbeats 20000000
section
section
open Go.BigFrame Go.RowKit
theorem spcX (x:Nod)(A:Option Addr)(m c:Nat)(l:List Val)(w:World)(h:rVal w A m l)(hl:l.length=arN x.op):
 Calls Tryz.prog 247 #[.agg #[.int .i64 x.op, .int .i64 x.vk, .int .i64 x.vm, .string x.vs, .string x.nm, .int .i64 x.ar], .slice A m c] w fun e w'=>e= .returned (.tuple #[.agg #[.int .i64 ((yen x l).getD zV).k, .int .i64 ((yen x l).getD zV).m, .string ((yen x l).getD zV).s], .bool (yen x l).isSome])/\Below w.heap.size w w':=by
 obtain ⟨op,vk,vm,vs,nm,ar⟩:=x
 simp only at hl ⊢
 have hm:=h.len
 have hB0:Below w.heap.size w ((w.alloc (.cells #[.int .i64 op, .int .i64 vk, .int .i64 vm, .string vs, .string nm, .int .i64 ar] 48)).alloc (.cells #[.int .i64 0, .int .i64 0, .string ⟨#[]⟩] 46)):=(zae _ _).alloc qH _
 by_cases h0:op=0
 ·subst h0
  go_enter Tryz.func247,Tryz.ntmps247
  go_wp2
  exact bodyPost_ret (v:= .tuple #[.agg #[.int .i64 vk, .int .i64 vm, .string vs], .bool true]) (by simp [results,Tryz.results247,go_sem]) rfl ⟨rfl,(zae _ _).alloc qH _⟩
 by_cases h14:op=14∨op=15
 ·have hl2:l.length=2:=by rcases h14 with rfl|rfl<;>exact hl
  obtain ⟨b,o,rfl,hc⟩:=h.opn qF
  match l,hl2 with
  | [u,v],_=>
   obtain ⟨x1,x2,x3⟩:=hc 0 u rfl
   obtain ⟨y1,y2,y3⟩:=hc 1 v rfl
   simp only [Nat.zero_mul,Nat.add_zero,Nat.one_mul] at x1 x2 x3 y1 y2 y3
   have hmm:m=2:=hm.symm
   subst hmm
   have x1:=qM hB0 x1
   have x2:=qM hB0 x2
   have x3:=qM hB0 x3
   have y1:=qM hB0 y1
   have y2:=qM hB0 y2
   have y3:=qM hB0 y3
   have HB0:=qL hB0
   clear h hc hB0 h0
   rcases h14 with rfl|rfl
   ·show Calls _ _ _ _ fun e w'=>e= .returned (.tuple #[.agg #[.int .i64 (yej u v 0).k, .int .i64 (yej u v 0).m, .string (yej u v 0).s], .bool true])/\Below w.heap.size w w'
    have HL:=qL fun W=>yml u v 0 (.inl rfl) W
    generalize yej u v 0=r at HL ⊢
    go_enter Tryz.func247,Tryz.ntmps247
    go_wp2_with fail
    go_region_with (go_at_call 275;refine (HL.out _).mono ?_;rintro e w6 ⟨rfl,hb6⟩;have hb6:=zb0 hb6;have z0:w6.cell? ⟨w.heap.size+1,0,none⟩=some (.int .i64 0):=qM hb6 qB;have z1:w6.cell? ⟨w.heap.size+1,1,none⟩=some (.int .i64 0):=qM hb6 qB;have z2:w6.cell? ⟨w.heap.size+1,2,none⟩=some (.string ⟨#[]⟩):=qM hb6 qB;have zf: ∀ o,w6.frozen? ⟨w.heap.size+1,o,none⟩=false:=(fun o=>(Below.frozen hb6 (p:=⟨w.heap.size+1,o,none⟩) qE).trans qB);have zs:w.heap.size+1<w6.heap.size:=qQ qE (Below.size hb6))
    all_goals
     have HB6:=qL (btr HB0.out hb6)
     clear hb6
     go_wp2
     exact bodyPost_ret (v:= .tuple #[.agg #[.int .i64 (r).k, .int .i64 (r).m, .string (r).s], .bool true]) (by simp [results,Tryz.results247,go_sem,z0,z1,z2]) rfl ⟨rfl,(((Below.setCell (HB6.out) (p:=⟨_,0,none⟩) qE _).setCell (p:=⟨_,1,none⟩) qE _).setCell (p:=⟨_,2,none⟩) qE _)⟩
   ·show Calls _ _ _ _ fun e w'=>e= .returned (.tuple #[.agg #[.int .i64 (yej u v 1).k, .int .i64 (yej u v 1).m, .string (yej u v 1).s], .bool true])/\Below w.heap.size w w'
    have HL:=qL fun W=>yml u v 1 (.inr rfl) W
    generalize yej u v 1=r at HL ⊢
    go_enter Tryz.func247,Tryz.ntmps247
    go_wp2_with fail
    go_region_with (go_at_call 275;refine (HL.out _).mono ?_;rintro e w6 ⟨rfl,hb6⟩;have hb6:=zb0 hb6;have z0:w6.cell? ⟨w.heap.size+1,0,none⟩=some (.int .i64 0):=qM hb6 qB;have z1:w6.cell? ⟨w.heap.size+1,1,none⟩=some (.int .i64 0):=qM hb6 qB;have z2:w6.cell? ⟨w.heap.size+1,2,none⟩=some (.string ⟨#[]⟩):=qM hb6 qB;have zf: ∀ o,w6.frozen? ⟨w.heap.size+1,o,none⟩=false:=(fun o=>(Below.frozen hb6 (p:=⟨w.heap.size+1,o,none⟩) qE).trans qB);have zs:w.heap.size+1<w6.heap.size:=qQ qE (Below.size hb6))
    all_goals
     have HB6:=qL (btr HB0.out hb6)
     clear hb6
     go_wp2
     exact bodyPost_ret (v:= .tuple #[.agg #[.int .i64 (r).k, .int .i64 (r).m, .string (r).s], .bool true]) (by simp [results,Tryz.results247,go_sem,z0,z1,z2]) rfl ⟨rfl,(((Below.setCell (HB6.out) (p:=⟨_,0,none⟩) qE _).setCell (p:=⟨_,1,none⟩) qE _).setCell (p:=⟨_,2,none⟩) qE _)⟩
 by_cases h16:op=16
 ·subst h16
  have hl1:l.length=1:=hl
  obtain ⟨b,o,rfl,hc⟩:=h.opn qF
  match l,hl1 with
  | [u],_=>
   obtain ⟨x1,x2,x3⟩:=hc 0 u rfl
   simp only [Nat.zero_mul,Nat.add_zero] at x1 x2 x3
   have hmm:m=1:=hm.symm
   subst hmm
   have x1:=qM hB0 x1
   have HB0:=qL hB0
   clear h hc hB0 h0 h14 x2 x3
   show Calls _ _ _ _ fun e w'=>e= .returned (.tuple #[.agg #[.int .i64 (yb3 (u.k==0)).k, .int .i64 (yb3 (u.k==0)).m, .string (yb3 (u.k==0)).s], .bool true])/\Below w.heap.size w w'
   have HL:=qL fun W=>zb8 (u.k==0) W
   generalize yb3 (u.k==0)=r at HL ⊢
   go_enter Tryz.func247,Tryz.ntmps247
   go_wp2_with fail
   refine (HL.out _).mono ?_
   rintro e w6 ⟨rfl,hb6⟩
   have z0:w6.cell? ⟨w.heap.size+1,0,none⟩=some (.int .i64 0):=qM hb6 qB;have z1:w6.cell? ⟨w.heap.size+1,1,none⟩=some (.int .i64 0):=qM hb6 qB;have z2:w6.cell? ⟨w.heap.size+1,2,none⟩=some (.string ⟨#[]⟩):=qM hb6 qB;have zf: ∀ o,w6.frozen? ⟨w.heap.size+1,o,none⟩=false:=(fun o=>(Below.frozen hb6 (p:=⟨w.heap.size+1,o,none⟩) qE).trans qB);have zs:w.heap.size+1<w6.heap.size:=qQ qE (Below.size hb6)
   have HB6:=qL (btr HB0.out hb6)
   clear hb6
   go_wp2
   exact bodyPost_ret (v:= .tuple #[.agg #[.int .i64 (r).k, .int .i64 (r).m, .string (r).s], .bool true]) (by simp [results,Tryz.results247,go_sem,z0,z1,z2]) rfl ⟨rfl,(((Below.setCell (HB6.out) (p:=⟨_,0,none⟩) qE _).setCell (p:=⟨_,1,none⟩) qE _).setCell (p:=⟨_,2,none⟩) qE _)⟩
 by_cases h17:op=17
 ·subst h17
  have hl3:l.length=3:=hl
  obtain ⟨b,o,rfl,hc⟩:=h.opn qF
  match l,hl3 with
  | [u,v,q],_=>
   obtain ⟨x1,x2,x3⟩:=hc 0 u rfl
   obtain ⟨y1,y2,y3⟩:=hc 1 v rfl
   obtain ⟨q1,q2,q3⟩:=hc 2 q rfl
   simp only [Nat.zero_mul,Nat.add_zero,Nat.one_mul] at x1 x2 x3 y1 y2 y3 q1 q2 q3
   have hmm:m=3:=hm.symm
   subst hmm
   have x1:=qM hB0 x1
   have x2:=qM hB0 x2
   have x3:=qM hB0 x3
   have y1:=qM hB0 y1
   have y2:=qM hB0 y2
   have y3:=qM hB0 y3
   have q1:=qM hB0 q1
   have q2:=qM hB0 q2
   have q3:=qM hB0 q3
   have HB0:=qL hB0
   clear h hc hB0 h0 h14 h16
   show Calls _ _ _ _ fun e w'=>e= .returned (.tuple #[.agg #[.int .i64 (if ybz u=1 then v else q).k, .int .i64 (if ybz u=1 then v else q).m, .string (if ybz u=1 then v else q).s], .bool true])/\Below w.heap.size w w'
   obtain ⟨r,hr⟩: ∃ r:Val,r=if ybz u=1 then v else q:=⟨_,rfl⟩
   rw [<-hr]
   have HL:=qL fun W=>zjs u W
   generalize ybz u=tu at HL hr
   have HRR:=qL hr
   clear hr
   go_enter Tryz.func247,Tryz.ntmps247
   go_wp2_with fail
   refine (HL.out _).mono ?_
   rintro e w6 ⟨rfl,hb6⟩
   have z0:w6.cell? ⟨w.heap.size+1,0,none⟩=some (.int .i64 0):=qM hb6 qB;have z1:w6.cell? ⟨w.heap.size+1,1,none⟩=some (.int .i64 0):=qM hb6 qB;have z2:w6.cell? ⟨w.heap.size+1,2,none⟩=some (.string ⟨#[]⟩):=qM hb6 qB;have zf: ∀ o,w6.frozen? ⟨w.heap.size+1,o,none⟩=false:=(fun o=>(Below.frozen hb6 (p:=⟨w.heap.size+1,o,none⟩) qE).trans qB);have zs:w.heap.size+1<w6.heap.size:=qQ qE (Below.size hb6)
   have y1:=qM hb6 y1
   have y2:=qM hb6 y2
   have y3:=qM hb6 y3
   have q1:=qM hb6 q1
   have q2:=qM hb6 q2
   have q3:=qM hb6 q3
   have HB6:=qL (btr HB0.out hb6)
   clear hb6 x1 x2 x3
   by_cases ht:tu=1
   ·have ht':(tu==1)=true:=by simp [ht]
    have HE:Hid (r=v):=qL (by rw [HRR.out,if_pos ht])
    clear ht
    go_wp2
    exact bodyPost_ret (v:= .tuple #[.agg #[.int .i64 (v).k, .int .i64 (v).m, .string (v).s], .bool true]) (by simp [results,Tryz.results247,go_sem,z0,z1,z2]) rfl ⟨by rw [HE.out],(((Below.setCell (HB6.out) (p:=⟨_,0,none⟩) qE _).setCell (p:=⟨_,1,none⟩) qE _).setCell (p:=⟨_,2,none⟩) qE _)⟩
   ·have ht':(tu==1)=false:=by simp [ht]
    have HE:Hid (r=q):=qL (by rw [HRR.out,if_neg ht])
    clear ht
    go_wp2
    exact bodyPost_ret (v:= .tuple #[.agg #[.int .i64 (q).k, .int .i64 (q).m, .string (q).s], .bool true]) (by simp [results,Tryz.results247,go_sem,z0,z1,z2]) rfl ⟨by rw [HE.out],(((Below.setCell (HB6.out) (p:=⟨_,0,none⟩) qE _).setCell (p:=⟨_,1,none⟩) qE _).setCell (p:=⟨_,2,none⟩) qE _)⟩
 by_cases h18:op=18
 ·subst h18
  have hl2:l.length=2:=hl
  obtain ⟨b,o,rfl,hc⟩:=h.opn qF
  match l,hl2 with
  | [u,v],_=>
   obtain ⟨x1,x2,x3⟩:=hc 0 u rfl
   obtain ⟨y1,y2,y3⟩:=hc 1 v rfl
   simp only [Nat.zero_mul,Nat.add_zero,Nat.one_mul] at x1 x2 x3 y1 y2 y3
   have hmm:m=2:=hm.symm
   subst hmm
   have x1:=qM hB0 x1
   have x2:=qM hB0 x2
   have x3:=qM hB0 x3
   have y1:=qM hB0 y1
   have y2:=qM hB0 y2
   have y3:=qM hB0 y3
   have HB0:=qL hB0
   clear h hc hB0 h0 h14 h16 h17
   show Calls _ _ _ _ fun e w'=>e= .returned (.tuple #[.agg #[.int .i64 (if u.k=0 then v else u).k, .int .i64 (if u.k=0 then v else u).m, .string (if u.k=0 then v else u).s], .bool true])/\Below w.heap.size w w'
   by_cases ht:u.k=0
   ·have ht':(u.k==0)=true:=by simp [ht]
    rw [if_pos ht]
    clear ht
    go_enter Tryz.func247,Tryz.ntmps247
    go_wp2
    exact bodyPost_ret (v:= .tuple #[.agg #[.int .i64 (v).k, .int .i64 (v).m, .string (v).s], .bool true]) (by simp [results,Tryz.results247,go_sem]) rfl ⟨rfl,(zae _ _).alloc qH _⟩
   ·have ht':(u.k==0)=false:=by simp [ht]
    rw [if_neg ht]
    clear ht
    go_enter Tryz.func247,Tryz.ntmps247
    go_wp2
    exact bodyPost_ret (v:= .tuple #[.agg #[.int .i64 (u).k, .int .i64 (u).m, .string (u).s], .bool true]) (by simp [results,Tryz.results247,go_sem]) rfl ⟨rfl,(zae _ _).alloc qH _⟩
 have hs:yen ⟨op,vk,vm,vs,nm,ar⟩ l=none:=by
  unfold yen
  simp only
  rw [if_neg h0,if_neg qF,if_neg qF,if_neg h16,if_neg h17,if_neg h18]
 rw [hs]
 have d0:(op==0)=false:=by simpa using h0
 have d1:(op==14)=false:=by simp;omega
 have d2:(op==15)=false:=by simp;omega
 have d3:(op==16)=false:=by simpa using h16
 have d4:(op==17)=false:=by simpa using h17
 have d5:(op==18)=false:=by simpa using h18
 clear hs h0 h14 h16 h17 h18 h hl hm
 show Calls _ _ _ _ fun e w'=>e= .returned (.tuple #[.agg #[.int .i64 0, .int .i64 0, .string ⟨#[]⟩], .bool false])/\Below w.heap.size w w'
 go_enter Tryz.func247,Tryz.ntmps247
 go_wp2
 exact bodyPost_ret (v:= .tuple #[.agg #[.int .i64 0, .int .i64 0, .string ⟨#[]⟩], .bool false]) (by simp [results,Tryz.results247,go_sem]) rfl ⟨rfl,(zae _ _).alloc qH _⟩
theorem ariX (op:Int)(a b:Val)(w:World)(h4:4<=op)(h8:op<=8)(a1: -1073741824<=a.m)(a2:a.m<=1073741824)(b1: -1073741824<=b.m)(b2:b.m<=1073741824):
 Calls Tryz.prog 281 #[.int .i64 op, .agg #[.int .i64 (a).k, .int .i64 (a).m, .string (a).s], .agg #[.int .i64 (b).k, .int .i64 (b).m, .string (b).s]] w fun e w'=>e= .returned (.agg #[.int .i64 (yhd op a b).k, .int .i64 (yhd op a b).m, .string (yhd op a b).s])/\Below w.heap.size w w':=by
 have HB0:Hid (Below w.heap.size w (((w.alloc (.cells #[.int .i64 a.k, .int .i64 a.m, .string a.s] 46)).alloc (.cells #[.int .i64 b.k, .int .i64 b.m, .string b.s] 46)).alloc (.cells #[.int .i64 0, .int .i64 0, .string ⟨#[]⟩] 46))):=qL (((zae _ _).alloc qH _).alloc (by simp;omega) _)
 have hop:op=4∨op=5∨op=6∨op=7∨op=8:=by omega
 clear h4 h8
 rcases hop with rfl|rfl|rfl|rfl|rfl
 ·by_cases hk:a.k=4
  ·have hk':(a.k==4)=true:=by simp [hk]
   have HK:=qL hk
   rw [show yhd 4 a b=ydr (a.m+b.m) from by show (if a.k=4 then ydr (a.m+b.m) else ya5 (a.m+b.m))=_;rw [if_pos hk]]
   clear hk
   have HC:=qL fun W=>zpg (a.m+b.m) W
   have hw:IntKind.i64.wrap (a.m+b.m)=a.m+b.m:=by rw [IntKind.wrap_i64];omega
   generalize hr:ydr (a.m+b.m)=r at HC ⊢
   clear hr
   go_enter Tryz.func281,Tryz.ntmps281
   go_wp2_with fail
   refine (HC.out _).mono ?_
   rintro e w6 ⟨rfl,hb6⟩
   have z0:w6.cell? ⟨w.heap.size+2,0,none⟩=some (.int .i64 0):=qM hb6 qB;have z1:w6.cell? ⟨w.heap.size+2,1,none⟩=some (.int .i64 0):=qM hb6 qB;have z2:w6.cell? ⟨w.heap.size+2,2,none⟩=some (.string ⟨#[]⟩):=qM hb6 qB;have zf: ∀ o,w6.frozen? ⟨w.heap.size+2,o,none⟩=false:=(fun o=>(Below.frozen hb6 (p:=⟨w.heap.size+2,o,none⟩) qE).trans qB);have zs:w.heap.size+2<w6.heap.size:=qQ qE (Below.size hb6)
   have HB6:=qL (btr HB0.out hb6)
   clear hb6
   go_wp2
   exact bodyPost_ret (v:= .agg #[.int .i64 (r).k, .int .i64 (r).m, .string (r).s]) (by simp [results,Tryz.results281,go_sem,z0,z1,z2]) rfl ⟨rfl,(((Below.setCell (HB6.out) (p:=⟨_,0,none⟩) qE _).setCell (p:=⟨_,1,none⟩) qE _).setCell (p:=⟨_,2,none⟩) qE _)⟩
  ·have hk':(a.k==4)=false:=by simp [hk]
   rw [show yhd 4 a b=ya5 (a.m+b.m) from by show (if a.k=4 then ydr (a.m+b.m) else ya5 (a.m+b.m))=_;rw [if_neg hk]]
   clear hk
   have HC:=qL fun W=>addX a.m b.m W a1 a2 b1 b2
   generalize hr:ya5 (a.m+b.m)=r at HC ⊢
   clear hr
   go_enter Tryz.func281,Tryz.ntmps281
   go_wp2_with fail
   refine (HC.out _).mono ?_
   rintro e w5 ⟨m,ok,rfl,hv,hb5⟩
   have z0:w5.cell? ⟨w.heap.size+2,0,none⟩=some (.int .i64 0):=qM hb5 qB;have z1:w5.cell? ⟨w.heap.size+2,1,none⟩=some (.int .i64 0):=qM hb5 qB;have z2:w5.cell? ⟨w.heap.size+2,2,none⟩=some (.string ⟨#[]⟩):=qM hb5 qB;have zf: ∀ o,w5.frozen? ⟨w.heap.size+2,o,none⟩=false:=(fun o=>(Below.frozen hb5 (p:=⟨w.heap.size+2,o,none⟩) qE).trans qB);have zs:w.heap.size+2<w5.heap.size:=qQ qE (Below.size hb5)
   have HB5:=qL (btr HB0.out hb5)
   clear hb5
   have HN:=qL fun W=>zdg m ok W
   rw [hv] at HN
   clear hv
   go_wp2_with fail
   refine (HN.out _).mono ?_
   rintro e w6 ⟨rfl,hb6⟩
   have z0:=qM hb6 z0;have z1:=qM hb6 z1;have z2:=qM hb6 z2;have zf: ∀ o,w6.frozen? ⟨w.heap.size+2,o,none⟩=false:=(fun o=>(Below.frozen hb6 (p:=⟨w.heap.size+2,o,none⟩) zs).trans (zf o));have zs:w.heap.size+2<w6.heap.size:=qQ zs (Below.size hb6)
   have HB6:=qL (btr HB5.out hb6)
   clear hb6
   go_wp2
   exact bodyPost_ret (v:= .agg #[.int .i64 (r).k, .int .i64 (r).m, .string (r).s]) (by simp [results,Tryz.results281,go_sem,z0,z1,z2]) rfl ⟨rfl,(((Below.setCell (HB6.out) (p:=⟨_,0,none⟩) qE _).setCell (p:=⟨_,1,none⟩) qE _).setCell (p:=⟨_,2,none⟩) qE _)⟩
 ·by_cases hk:a.k=4/\b.k=2
  ·have hk':(a.k==4)=true:=by simp [hk.1]
   have hk2:(b.k==2)=true:=by simp [hk.2]
   rw [show yhd 5 a b=ydr (a.m - b.m) from by show (if a.k=4/\b.k=2 then ydr (a.m - b.m) else ya5 (a.m - b.m))=_;rw [if_pos hk]]
   clear hk
   have HC:=qL fun W=>zpg (a.m - b.m) W
   have hw:IntKind.i64.wrap (a.m - b.m)=a.m - b.m:=by rw [IntKind.wrap_i64];omega
   generalize hr:ydr (a.m - b.m)=r at HC ⊢
   clear hr
   go_enter Tryz.func281,Tryz.ntmps281
   go_wp2_with fail
   refine (HC.out _).mono ?_
   rintro e w6 ⟨rfl,hb6⟩
   have z0:w6.cell? ⟨w.heap.size+2,0,none⟩=some (.int .i64 0):=qM hb6 qB;have z1:w6.cell? ⟨w.heap.size+2,1,none⟩=some (.int .i64 0):=qM hb6 qB;have z2:w6.cell? ⟨w.heap.size+2,2,none⟩=some (.string ⟨#[]⟩):=qM hb6 qB;have zf: ∀ o,w6.frozen? ⟨w.heap.size+2,o,none⟩=false:=(fun o=>(Below.frozen hb6 (p:=⟨w.heap.size+2,o,none⟩) qE).trans qB);have zs:w.heap.size+2<w6.heap.size:=qQ qE (Below.size hb6)
   have HB6:=qL (btr HB0.out hb6)
   clear hb6
   go_wp2
   exact bodyPost_ret (v:= .agg #[.int .i64 (r).k, .int .i64 (r).m, .string (r).s]) (by simp [results,Tryz.results281,go_sem,z0,z1,z2]) rfl ⟨rfl,(((Below.setCell (HB6.out) (p:=⟨_,0,none⟩) qE _).setCell (p:=⟨_,1,none⟩) qE _).setCell (p:=⟨_,2,none⟩) qE _)⟩
  ·rw [show yhd 5 a b=ya5 (a.m - b.m) from by show (if a.k=4/\b.k=2 then ydr (a.m - b.m) else ya5 (a.m - b.m))=_;rw [if_neg hk]]
   have HC:=qL fun W=>subX a.m b.m W a1 a2 b1 b2
   generalize hr:ya5 (a.m - b.m)=r at HC ⊢
   clear hr
   have hkk:((a.k==4)=true/\(b.k==2)=false)∨(a.k==4)=false:=by
    by_cases k1:a.k=4
    ·left;exact ⟨by simp [k1],by simp;omega⟩
    ·right;simp [k1]
   clear hk
   rcases hkk with ⟨hk',hk2⟩|hk'
   all_goals
    go_enter Tryz.func281,Tryz.ntmps281
    go_wp2_with fail
    refine (HC.out _).mono ?_
    rintro e w5 ⟨m,ok,rfl,hv,hb5⟩
    have z0:w5.cell? ⟨w.heap.size+2,0,none⟩=some (.int .i64 0):=qM hb5 qB;have z1:w5.cell? ⟨w.heap.size+2,1,none⟩=some (.int .i64 0):=qM hb5 qB;have z2:w5.cell? ⟨w.heap.size+2,2,none⟩=some (.string ⟨#[]⟩):=qM hb5 qB;have zf: ∀ o,w5.frozen? ⟨w.heap.size+2,o,none⟩=false:=(fun o=>(Below.frozen hb5 (p:=⟨w.heap.size+2,o,none⟩) qE).trans qB);have zs:w.heap.size+2<w5.heap.size:=qQ qE (Below.size hb5)
    have HB5:=qL (btr HB0.out hb5)
    clear hb5
    have HN:=qL fun W=>zdg m ok W
    rw [hv] at HN
    clear hv
    go_wp2_with fail
    refine (HN.out _).mono ?_
    rintro e w6 ⟨rfl,hb6⟩
    have z0:=qM hb6 z0;have z1:=qM hb6 z1;have z2:=qM hb6 z2;have zf: ∀ o,w6.frozen? ⟨w.heap.size+2,o,none⟩=false:=(fun o=>(Below.frozen hb6 (p:=⟨w.heap.size+2,o,none⟩) zs).trans (zf o));have zs:w.heap.size+2<w6.heap.size:=qQ zs (Below.size hb6)
    have HB6:=qL (btr HB5.out hb6)
    clear hb6
    go_wp2
    exact bodyPost_ret (v:= .agg #[.int .i64 (r).k, .int .i64 (r).m, .string (r).s]) (by simp [results,Tryz.results281,go_sem,z0,z1,z2]) rfl ⟨rfl,(((Below.setCell (HB6.out) (p:=⟨_,0,none⟩) qE _).setCell (p:=⟨_,1,none⟩) qE _).setCell (p:=⟨_,2,none⟩) qE _)⟩
 ·rw [show yhd 6 a b=ya5 (a.m*b.m) from rfl]
  have HC:=qL fun W=>mulX a.m b.m W a1 a2 b1 b2
  generalize hr:ya5 (a.m*b.m)=r at HC ⊢
  clear hr
  go_enter Tryz.func281,Tryz.ntmps281
  go_wp2_with fail
  refine (HC.out _).mono ?_
  rintro e w5 ⟨m,ok,rfl,hv,hb5⟩
  have z0:w5.cell? ⟨w.heap.size+2,0,none⟩=some (.int .i64 0):=qM hb5 qB;have z1:w5.cell? ⟨w.heap.size+2,1,none⟩=some (.int .i64 0):=qM hb5 qB;have z2:w5.cell? ⟨w.heap.size+2,2,none⟩=some (.string ⟨#[]⟩):=qM hb5 qB;have zf: ∀ o,w5.frozen? ⟨w.heap.size+2,o,none⟩=false:=(fun o=>(Below.frozen hb5 (p:=⟨w.heap.size+2,o,none⟩) qE).trans qB);have zs:w.heap.size+2<w5.heap.size:=qQ qE (Below.size hb5)
  have HB5:=qL (btr HB0.out hb5)
  clear hb5
  have HN:=qL fun W=>zdg m ok W
  rw [hv] at HN
  clear hv
  go_wp2_with fail
  refine (HN.out _).mono ?_
  rintro e w6 ⟨rfl,hb6⟩
  have z0:=qM hb6 z0;have z1:=qM hb6 z1;have z2:=qM hb6 z2;have zf: ∀ o,w6.frozen? ⟨w.heap.size+2,o,none⟩=false:=(fun o=>(Below.frozen hb6 (p:=⟨w.heap.size+2,o,none⟩) zs).trans (zf o));have zs:w.heap.size+2<w6.heap.size:=qQ zs (Below.size hb6)
  have HB6:=qL (btr HB5.out hb6)
  clear hb6
  go_wp2
  exact bodyPost_ret (v:= .agg #[.int .i64 (r).k, .int .i64 (r).m, .string (r).s]) (by simp [results,Tryz.results281,go_sem,z0,z1,z2]) rfl ⟨rfl,(((Below.setCell (HB6.out) (p:=⟨_,0,none⟩) qE _).setCell (p:=⟨_,1,none⟩) qE _).setCell (p:=⟨_,2,none⟩) qE _)⟩
 ·rw [show yhd 7 a b=dvV a.m b.m from rfl]
  have HC:=qL fun W=>divX a.m b.m W a1 a2 b1 b2
  generalize hr:dvV a.m b.m=r at HC ⊢
  clear hr
  go_enter Tryz.func281,Tryz.ntmps281
  go_wp2_with fail
  refine (HC.out _).mono ?_
  rintro e w5 ⟨m,ok,rfl,hv,hb5⟩
  have z0:w5.cell? ⟨w.heap.size+2,0,none⟩=some (.int .i64 0):=qM hb5 qB;have z1:w5.cell? ⟨w.heap.size+2,1,none⟩=some (.int .i64 0):=qM hb5 qB;have z2:w5.cell? ⟨w.heap.size+2,2,none⟩=some (.string ⟨#[]⟩):=qM hb5 qB;have zf: ∀ o,w5.frozen? ⟨w.heap.size+2,o,none⟩=false:=(fun o=>(Below.frozen hb5 (p:=⟨w.heap.size+2,o,none⟩) qE).trans qB);have zs:w.heap.size+2<w5.heap.size:=qQ qE (Below.size hb5)
  have HB5:=qL (btr HB0.out hb5)
  clear hb5
  have HN:=qL fun W=>zdg m ok W
  rw [hv] at HN
  clear hv
  go_wp2_with fail
  refine (HN.out _).mono ?_
  rintro e w6 ⟨rfl,hb6⟩
  have z0:=qM hb6 z0;have z1:=qM hb6 z1;have z2:=qM hb6 z2;have zf: ∀ o,w6.frozen? ⟨w.heap.size+2,o,none⟩=false:=(fun o=>(Below.frozen hb6 (p:=⟨w.heap.size+2,o,none⟩) zs).trans (zf o));have zs:w.heap.size+2<w6.heap.size:=qQ zs (Below.size hb6)
  have HB6:=qL (btr HB5.out hb6)
  clear hb6
  go_wp2
  exact bodyPost_ret (v:= .agg #[.int .i64 (r).k, .int .i64 (r).m, .string (r).s]) (by simp [results,Tryz.results281,go_sem,z0,z1,z2]) rfl ⟨rfl,(((Below.setCell (HB6.out) (p:=⟨_,0,none⟩) qE _).setCell (p:=⟨_,1,none⟩) qE _).setCell (p:=⟨_,2,none⟩) qE _)⟩
 ·rw [show yhd 8 a b=mdV a.m b.m from rfl]
  have HC:=qL fun W=>modX a.m b.m W a1 a2 b1 b2
  generalize hr:mdV a.m b.m=r at HC ⊢
  clear hr
  go_enter Tryz.func281,Tryz.ntmps281
  go_wp2_with fail
  refine (HC.out _).mono ?_
  rintro e w5 ⟨m,ok,rfl,hv,hb5⟩
  have z0:w5.cell? ⟨w.heap.size+2,0,none⟩=some (.int .i64 0):=qM hb5 qB;have z1:w5.cell? ⟨w.heap.size+2,1,none⟩=some (.int .i64 0):=qM hb5 qB;have z2:w5.cell? ⟨w.heap.size+2,2,none⟩=some (.string ⟨#[]⟩):=qM hb5 qB;have zf: ∀ o,w5.frozen? ⟨w.heap.size+2,o,none⟩=false:=(fun o=>(Below.frozen hb5 (p:=⟨w.heap.size+2,o,none⟩) qE).trans qB);have zs:w.heap.size+2<w5.heap.size:=qQ qE (Below.size hb5)
  have HB5:=qL (btr HB0.out hb5)
  clear hb5
  have HN:=qL fun W=>zdg m ok W
  rw [hv] at HN
  clear hv
  go_wp2_with fail
  refine (HN.out _).mono ?_
  rintro e w6 ⟨rfl,hb6⟩
  have z0:=qM hb6 z0;have z1:=qM hb6 z1;have z2:=qM hb6 z2;have zf: ∀ o,w6.frozen? ⟨w.heap.size+2,o,none⟩=false:=(fun o=>(Below.frozen hb6 (p:=⟨w.heap.size+2,o,none⟩) zs).trans (zf o));have zs:w.heap.size+2<w6.heap.size:=qQ zs (Below.size hb6)
  have HB6:=qL (btr HB5.out hb6)
  clear hb6
  go_wp2
  exact bodyPost_ret (v:= .agg #[.int .i64 (r).k, .int .i64 (r).m, .string (r).s]) (by simp [results,Tryz.results281,go_sem,z0,z1,z2]) rfl ⟨rfl,(((Below.setCell (HB6.out) (p:=⟨_,0,none⟩) qE _).setCell (p:=⟨_,1,none⟩) qE _).setCell (p:=⟨_,2,none⟩) qE _)⟩
end
end
section
section
open Go.BigFrame Go.RowKit
theorem zjy {v:Val}(h:yab v=true):v.s.size<=64:=by
 rcases za8 h with rfl|⟨m,rfl,_⟩|⟨m,rfl,_⟩|⟨s,rfl,h1⟩|⟨m,rfl,_⟩
 all_goals first |exact h1|exact (show (⟨#[]⟩:ByteArray).size<=64 by decide)
theorem apl2 (vk vm:Int)(vs nm:ByteArray)(ar:Int)(A zA:Option Addr)(m c zN zC:Nat)(l:List Val)(w:World)(h:rVal w A m l)(hl:l.length=1)(hval: ∀ v∈l,yab v=true):
 Calls Tryz.prog 249 #[.agg #[.int .i64 2, .int .i64 vk, .int .i64 vm, .string vs, .string nm, .int .i64 ar], .slice A m c, .slice zA zN zC] w fun e w'=>e= .returned (.agg #[.int .i64 (ybm ⟨2,vk,vm,vs,nm,ar⟩ l).k, .int .i64 (ybm ⟨2,vk,vm,vs,nm,ar⟩ l).m, .string (ybm ⟨2,vk,vm,vs,nm,ar⟩ l).s])/\Below w.heap.size w w':=by
 have hm:=h.len
 have hB0:Below w.heap.size w ((w.alloc (.cells #[.int .i64 2, .int .i64 vk, .int .i64 vm, .string vs, .string nm, .int .i64 ar] 48)).alloc (.cells #[.int .i64 0, .int .i64 0, .string ⟨#[]⟩] 46)):=(zae _ _).alloc qH _
 have hl1:l.length=1:=hl
 obtain ⟨b,o,rfl,hc⟩:=h.opn qF
 match l,hl1 with
 | [u],_=>
  obtain ⟨x1,x2,x3⟩:=hc 0 u rfl
  simp only [Nat.zero_mul,Nat.add_zero,Nat.one_mul] at x1 x2 x3
  have hmm:m=1:=hm.symm
  subst hmm
  have x1:=qM hB0 x1
  have x2:=qM hB0 x2
  have x3:=qM hB0 x3
  have hVu:=hval u qH
  have HB0:=qL hB0
  clear h hc hB0 hval
  show Calls _ _ _ _ fun e w'=>e= .returned (.agg #[.int .i64 (yb3 (ybz u==0)).k, .int .i64 (yb3 (ybz u==0)).m, .string (yb3 (ybz u==0)).s])/\Below w.heap.size w w'
  have HT:=qL fun W=>zjs u W
  have HL:=qL fun b W=>zb8 b W
  generalize ybz u=tu at HT ⊢
  have HL2:=qL fun W=>HL.out (tu==0) W
  generalize yb3 (tu==0)=r at HL2 ⊢
  go_enter Tryz.func249,Tryz.ntmps249
  go_wp2_with fail
  refine (HT.out _).mono ?_
  rintro e w5 ⟨rfl,hb5⟩
  have z0:w5.cell? ⟨w.heap.size+1,0,none⟩=some (.int .i64 0):=qM hb5 qB;have z1:w5.cell? ⟨w.heap.size+1,1,none⟩=some (.int .i64 0):=qM hb5 qB;have z2:w5.cell? ⟨w.heap.size+1,2,none⟩=some (.string ⟨#[]⟩):=qM hb5 qB;have zf: ∀ o,w5.frozen? ⟨w.heap.size+1,o,none⟩=false:=(fun o=>(Below.frozen hb5 (p:=⟨w.heap.size+1,o,none⟩) qE).trans qB);have zs:w.heap.size+1<w5.heap.size:=qQ qE (Below.size hb5)
  have HB5:=qL (btr HB0.out hb5)
  clear hb5 x1 x2 x3
  go_wp2_with fail
  refine (HL2.out _).mono ?_
  rintro e w6 ⟨rfl,hb6⟩
  have z0:=qM hb6 z0;have z1:=qM hb6 z1;have z2:=qM hb6 z2;have zf: ∀ o,w6.frozen? ⟨w.heap.size+1,o,none⟩=false:=(fun o=>(Below.frozen hb6 (p:=⟨w.heap.size+1,o,none⟩) zs).trans (zf o));have zs:w.heap.size+1<w6.heap.size:=qQ zs (Below.size hb6)
  have HB6:=qL (btr HB5.out hb6)
  clear hb6
  go_wp2
  exact bodyPost_ret (v:= .agg #[.int .i64 (r).k, .int .i64 (r).m, .string (r).s]) (by simp [results,Tryz.results249,go_sem,z0,z1,z2]) rfl ⟨rfl,(((Below.setCell (HB6.out) (p:=⟨_,0,none⟩) qE _).setCell (p:=⟨_,1,none⟩) qE _).setCell (p:=⟨_,2,none⟩) qE _)⟩
theorem apl3 (vk vm:Int)(vs nm:ByteArray)(ar:Int)(A zA:Option Addr)(m c zN zC:Nat)(l:List Val)(w:World)(h:rVal w A m l)(hl:l.length=1)(hval: ∀ v∈l,yab v=true):
 Calls Tryz.prog 249 #[.agg #[.int .i64 3, .int .i64 vk, .int .i64 vm, .string vs, .string nm, .int .i64 ar], .slice A m c, .slice zA zN zC] w fun e w'=>e= .returned (.agg #[.int .i64 (ybm ⟨3,vk,vm,vs,nm,ar⟩ l).k, .int .i64 (ybm ⟨3,vk,vm,vs,nm,ar⟩ l).m, .string (ybm ⟨3,vk,vm,vs,nm,ar⟩ l).s])/\Below w.heap.size w w':=by
 have hm:=h.len
 have hB0:Below w.heap.size w ((w.alloc (.cells #[.int .i64 3, .int .i64 vk, .int .i64 vm, .string vs, .string nm, .int .i64 ar] 48)).alloc (.cells #[.int .i64 0, .int .i64 0, .string ⟨#[]⟩] 46)):=(zae _ _).alloc qH _
 have hl1:l.length=1:=hl
 obtain ⟨b,o,rfl,hc⟩:=h.opn qF
 match l,hl1 with
 | [u],_=>
  obtain ⟨x1,x2,x3⟩:=hc 0 u rfl
  simp only [Nat.zero_mul,Nat.add_zero,Nat.one_mul] at x1 x2 x3
  have hmm:m=1:=hm.symm
  subst hmm
  have x1:=qM hB0 x1
  have x2:=qM hB0 x2
  have x3:=qM hB0 x3
  have hVu:=hval u qH
  have HB0:=qL hB0
  clear h hc hB0 hval
  show Calls _ _ _ _ fun e w'=>e= .returned (.agg #[.int .i64 (ya5 (0 - u.m)).k, .int .i64 (ya5 (0 - u.m)).m, .string (ya5 (0 - u.m)).s])/\Below w.heap.size w w'
  have HC:=qL fun W=>subX 0 u.m W qF qF (zch hVu).1 (zch hVu).2
  generalize hr:ya5 (0 - u.m)=r at HC ⊢
  clear hr
  go_enter Tryz.func249,Tryz.ntmps249
  go_wp2_with fail
  refine (HC.out _).mono ?_
  rintro e w5 ⟨m,ok,rfl,hv,hb5⟩
  have z0:w5.cell? ⟨w.heap.size+1,0,none⟩=some (.int .i64 0):=qM hb5 qB;have z1:w5.cell? ⟨w.heap.size+1,1,none⟩=some (.int .i64 0):=qM hb5 qB;have z2:w5.cell? ⟨w.heap.size+1,2,none⟩=some (.string ⟨#[]⟩):=qM hb5 qB;have zf: ∀ o,w5.frozen? ⟨w.heap.size+1,o,none⟩=false:=(fun o=>(Below.frozen hb5 (p:=⟨w.heap.size+1,o,none⟩) qE).trans qB);have zs:w.heap.size+1<w5.heap.size:=qQ qE (Below.size hb5)
  have HB5:=qL (btr HB0.out hb5)
  clear hb5
  have HN:=qL fun W=>zdg m ok W
  rw [hv] at HN
  clear hv
  go_wp2_with fail
  refine (HN.out _).mono ?_
  rintro e w6 ⟨rfl,hb6⟩
  have z0:=qM hb6 z0;have z1:=qM hb6 z1;have z2:=qM hb6 z2;have zf: ∀ o,w6.frozen? ⟨w.heap.size+1,o,none⟩=false:=(fun o=>(Below.frozen hb6 (p:=⟨w.heap.size+1,o,none⟩) zs).trans (zf o));have zs:w.heap.size+1<w6.heap.size:=qQ zs (Below.size hb6)
  have HB6:=qL (btr HB5.out hb6)
  clear hb6
  go_wp2
  exact bodyPost_ret (v:= .agg #[.int .i64 (r).k, .int .i64 (r).m, .string (r).s]) (by simp [results,Tryz.results249,go_sem,z0,z1,z2]) rfl ⟨rfl,(((Below.setCell (HB6.out) (p:=⟨_,0,none⟩) qE _).setCell (p:=⟨_,1,none⟩) qE _).setCell (p:=⟨_,2,none⟩) qE _)⟩
theorem apl9 (vk vm:Int)(vs nm:ByteArray)(ar:Int)(A zA:Option Addr)(m c zN zC:Nat)(l:List Val)(w:World)(h:rVal w A m l)(hl:l.length=2)(hval: ∀ v∈l,yab v=true):
 Calls Tryz.prog 249 #[.agg #[.int .i64 9, .int .i64 vk, .int .i64 vm, .string vs, .string nm, .int .i64 ar], .slice A m c, .slice zA zN zC] w fun e w'=>e= .returned (.agg #[.int .i64 (ybm ⟨9,vk,vm,vs,nm,ar⟩ l).k, .int .i64 (ybm ⟨9,vk,vm,vs,nm,ar⟩ l).m, .string (ybm ⟨9,vk,vm,vs,nm,ar⟩ l).s])/\Below w.heap.size w w':=by
 have hm:=h.len
 have hB0:Below w.heap.size w ((w.alloc (.cells #[.int .i64 9, .int .i64 vk, .int .i64 vm, .string vs, .string nm, .int .i64 ar] 48)).alloc (.cells #[.int .i64 0, .int .i64 0, .string ⟨#[]⟩] 46)):=(zae _ _).alloc qH _
 have hl2:l.length=2:=hl
 obtain ⟨b,o,rfl,hc⟩:=h.opn qF
 match l,hl2 with
 | [u,v],_=>
  obtain ⟨x1,x2,x3⟩:=hc 0 u rfl
  obtain ⟨y1,y2,y3⟩:=hc 1 v rfl
  simp only [Nat.zero_mul,Nat.add_zero,Nat.one_mul] at x1 x2 x3 y1 y2 y3
  have hmm:m=2:=hm.symm
  subst hmm
  have x1:=qM hB0 x1
  have x2:=qM hB0 x2
  have x3:=qM hB0 x3
  have y1:=qM hB0 y1
  have y2:=qM hB0 y2
  have y3:=qM hB0 y3
  have hVu:=hval u qH
  have hVv:=hval v qH
  have HB0:=qL hB0
  clear h hc hB0 hval
  show Calls _ _ _ _ fun e w'=>e= .returned (.agg #[.int .i64 (if (u.s++v.s).size<=64 then (⟨3,0,u.s++v.s⟩:Val) else zV).k, .int .i64 (if (u.s++v.s).size<=64 then (⟨3,0,u.s++v.s⟩:Val) else zV).m, .string (if (u.s++v.s).size<=64 then (⟨3,0,u.s++v.s⟩:Val) else zV).s])/\Below w.heap.size w w'
  have su:=zjy hVu
  have sv:=zjy hVv
  have hno: ¬ (9223372036854775807<u.s.size+v.s.size):=by omega
  have hno2: ¬ ((9223372036854775807:Int)<(u.s.size:Int)+(v.s.size:Int)):=by omega
  have hsz:(u.s++v.s).size=u.s.size+v.s.size:=by simp
  by_cases hs:u.s.size+v.s.size<=64
  ·have hs1:decide ((u.s.size:Int)+(v.s.size:Int)<=64)=true:=by simp;omega
   have hs2:decide (u.s.size+v.s.size<=64)=true:=by simp;omega
   rw [if_pos (by rw [hsz];exact hs)]
   clear hs hsz
   go_enter Tryz.func249,Tryz.ntmps249
   go_wp2_with fail
   go_quiet (fail)
   go_wp2
   exact bodyPost_ret (v:= .agg #[.int .i64 3, .int .i64 0, .string (u.s++v.s)]) (by simp [results,Tryz.results249,go_sem]) rfl ⟨rfl,(((Below.setCell (za6 ((zae _ _).alloc qH _) _) (p:=⟨_,0,none⟩) qE _).setCell (p:=⟨_,1,none⟩) qE _).setCell (p:=⟨_,2,none⟩) qE _)⟩
  ·have hs1:decide ((u.s.size:Int)+(v.s.size:Int)<=64)=false:=by simp;omega
   have hs2:decide (u.s.size+v.s.size<=64)=false:=by simp;omega
   rw [if_neg (by rw [hsz];exact hs)]
   clear hs hsz
   go_enter Tryz.func249,Tryz.ntmps249
   go_wp2_with fail
   go_quiet (fail)
   go_wp2
   exact bodyPost_ret (v:= .agg #[.int .i64 0, .int .i64 0, .string ⟨#[]⟩]) (by simp [results,Tryz.results249,go_sem]) rfl ⟨rfl,(((Below.setCell (za6 ((zae _ _).alloc qH _) _) (p:=⟨_,0,none⟩) qE _).setCell (p:=⟨_,1,none⟩) qE _).setCell (p:=⟨_,2,none⟩) qE _)⟩
theorem Ydw (vk vm:Int)(vs nm:ByteArray)(ar:Int)(A zA:Option Addr)(m c zN zC:Nat)(l:List Val)(w:World)(h:rVal w A m l)(hl:l.length=2)(hval: ∀ v∈l,yab v=true):
 Calls Tryz.prog 249 #[.agg #[.int .i64 10, .int .i64 vk, .int .i64 vm, .string vs, .string nm, .int .i64 ar], .slice A m c, .slice zA zN zC] w fun e w'=>e= .returned (.agg #[.int .i64 (ybm ⟨10,vk,vm,vs,nm,ar⟩ l).k, .int .i64 (ybm ⟨10,vk,vm,vs,nm,ar⟩ l).m, .string (ybm ⟨10,vk,vm,vs,nm,ar⟩ l).s])/\Below w.heap.size w w':=by
 have hm:=h.len
 have hB0:Below w.heap.size w ((w.alloc (.cells #[.int .i64 10, .int .i64 vk, .int .i64 vm, .string vs, .string nm, .int .i64 ar] 48)).alloc (.cells #[.int .i64 0, .int .i64 0, .string ⟨#[]⟩] 46)):=(zae _ _).alloc qH _
 have hl2:l.length=2:=hl
 obtain ⟨b,o,rfl,hc⟩:=h.opn qF
 match l,hl2 with
 | [u,v],_=>
  obtain ⟨x1,x2,x3⟩:=hc 0 u rfl
  obtain ⟨y1,y2,y3⟩:=hc 1 v rfl
  simp only [Nat.zero_mul,Nat.add_zero,Nat.one_mul] at x1 x2 x3 y1 y2 y3
  have hmm:m=2:=hm.symm
  subst hmm
  have x1:=qM hB0 x1
  have x2:=qM hB0 x2
  have x3:=qM hB0 x3
  have y1:=qM hB0 y1
  have y2:=qM hB0 y2
  have y3:=qM hB0 y3
  have hVu:=hval u qH
  have hVv:=hval v qH
  have HB0:=qL hB0
  clear h hc hB0 hval
  rw [show ybm ⟨10,vk,vm,vs,nm,ar⟩ [u,v]=yb3 (yea u v) from by rw [zjk];rfl]
  have qe: ∀ W:World,(binOp .eql 46 (.agg #[.int .i64 (u).k, .int .i64 (u).m, .string (u).s]) (.agg #[.int .i64 (v).k, .int .i64 (v).m, .string (v).s])).run Tryz.prog W= .ok (.bool (yea u v)) W:=fun W=>zne u.k u.m u.s v.k v.m v.s W
  have HL:=qL fun W=>zb8 (yea u v) W
  generalize (yea u v)=bb at qe HL ⊢
  generalize yb3 bb=r at HL ⊢
  go_enter Tryz.func249,Tryz.ntmps249
  go_wp2_with fail
  go_region_with (go_at_call 276;refine (HL.out _).mono ?_;rintro e w6 ⟨rfl,hb6⟩;have hb6:=zb0 hb6;have z0:w6.cell? ⟨w.heap.size+1,0,none⟩=some (.int .i64 0):=qM hb6 qB;have z1:w6.cell? ⟨w.heap.size+1,1,none⟩=some (.int .i64 0):=qM hb6 qB;have z2:w6.cell? ⟨w.heap.size+1,2,none⟩=some (.string ⟨#[]⟩):=qM hb6 qB;have zf: ∀ o,w6.frozen? ⟨w.heap.size+1,o,none⟩=false:=(fun o=>(Below.frozen hb6 (p:=⟨w.heap.size+1,o,none⟩) qE).trans qB);have zs:w.heap.size+1<w6.heap.size:=qQ qE (Below.size hb6))
  all_goals
   have HB6:=qL (btr HB0.out hb6)
   clear hb6
   go_wp2
   exact bodyPost_ret (v:= .agg #[.int .i64 (r).k, .int .i64 (r).m, .string (r).s]) (by simp [results,Tryz.results249,go_sem,z0,z1,z2]) rfl ⟨rfl,(((Below.setCell (HB6.out) (p:=⟨_,0,none⟩) qE _).setCell (p:=⟨_,1,none⟩) qE _).setCell (p:=⟨_,2,none⟩) qE _)⟩
theorem Ydx (vk vm:Int)(vs nm:ByteArray)(ar:Int)(A zA:Option Addr)(m c zN zC:Nat)(l:List Val)(w:World)(h:rVal w A m l)(hl:l.length=2)(hval: ∀ v∈l,yab v=true):
 Calls Tryz.prog 249 #[.agg #[.int .i64 11, .int .i64 vk, .int .i64 vm, .string vs, .string nm, .int .i64 ar], .slice A m c, .slice zA zN zC] w fun e w'=>e= .returned (.agg #[.int .i64 (ybm ⟨11,vk,vm,vs,nm,ar⟩ l).k, .int .i64 (ybm ⟨11,vk,vm,vs,nm,ar⟩ l).m, .string (ybm ⟨11,vk,vm,vs,nm,ar⟩ l).s])/\Below w.heap.size w w':=by
 have hm:=h.len
 have hB0:Below w.heap.size w ((w.alloc (.cells #[.int .i64 11, .int .i64 vk, .int .i64 vm, .string vs, .string nm, .int .i64 ar] 48)).alloc (.cells #[.int .i64 0, .int .i64 0, .string ⟨#[]⟩] 46)):=(zae _ _).alloc qH _
 have hl2:l.length=2:=hl
 obtain ⟨b,o,rfl,hc⟩:=h.opn qF
 match l,hl2 with
 | [u,v],_=>
  obtain ⟨x1,x2,x3⟩:=hc 0 u rfl
  obtain ⟨y1,y2,y3⟩:=hc 1 v rfl
  simp only [Nat.zero_mul,Nat.add_zero,Nat.one_mul] at x1 x2 x3 y1 y2 y3
  have hmm:m=2:=hm.symm
  subst hmm
  have x1:=qM hB0 x1
  have x2:=qM hB0 x2
  have x3:=qM hB0 x3
  have y1:=qM hB0 y1
  have y2:=qM hB0 y2
  have y3:=qM hB0 y3
  have hVu:=hval u qH
  have hVv:=hval v qH
  have HB0:=qL hB0
  clear h hc hB0 hval
  rw [show ybm ⟨11,vk,vm,vs,nm,ar⟩ [u,v]=yb3 (!yea u v) from by rw [zjk];rfl]
  have qe: ∀ W:World,(binOp .neq 46 (.agg #[.int .i64 (u).k, .int .i64 (u).m, .string (u).s]) (.agg #[.int .i64 (v).k, .int .i64 (v).m, .string (v).s])).run Tryz.prog W= .ok (.bool (!yea u v)) W:=fun W=>yy0 u.k u.m u.s v.k v.m v.s W
  have HL:=qL fun W=>zb8 (!yea u v) W
  generalize (!yea u v)=bb at qe HL ⊢
  generalize yb3 bb=r at HL ⊢
  go_enter Tryz.func249,Tryz.ntmps249
  go_wp2_with fail
  go_region_with (go_at_call 276;refine (HL.out _).mono ?_;rintro e w6 ⟨rfl,hb6⟩;have hb6:=zb0 hb6;have z0:w6.cell? ⟨w.heap.size+1,0,none⟩=some (.int .i64 0):=qM hb6 qB;have z1:w6.cell? ⟨w.heap.size+1,1,none⟩=some (.int .i64 0):=qM hb6 qB;have z2:w6.cell? ⟨w.heap.size+1,2,none⟩=some (.string ⟨#[]⟩):=qM hb6 qB;have zf: ∀ o,w6.frozen? ⟨w.heap.size+1,o,none⟩=false:=(fun o=>(Below.frozen hb6 (p:=⟨w.heap.size+1,o,none⟩) qE).trans qB);have zs:w.heap.size+1<w6.heap.size:=qQ qE (Below.size hb6))
  all_goals
   have HB6:=qL (btr HB0.out hb6)
   clear hb6
   go_wp2
   exact bodyPost_ret (v:= .agg #[.int .i64 (r).k, .int .i64 (r).m, .string (r).s]) (by simp [results,Tryz.results249,go_sem,z0,z1,z2]) rfl ⟨rfl,(((Below.setCell (HB6.out) (p:=⟨_,0,none⟩) qE _).setCell (p:=⟨_,1,none⟩) qE _).setCell (p:=⟨_,2,none⟩) qE _)⟩
theorem Ydy (vk vm:Int)(vs nm:ByteArray)(ar:Int)(A zA:Option Addr)(m c zN zC:Nat)(l:List Val)(w:World)(h:rVal w A m l)(hl:l.length=2)(hval: ∀ v∈l,yab v=true):
 Calls Tryz.prog 249 #[.agg #[.int .i64 12, .int .i64 vk, .int .i64 vm, .string vs, .string nm, .int .i64 ar], .slice A m c, .slice zA zN zC] w fun e w'=>e= .returned (.agg #[.int .i64 (ybm ⟨12,vk,vm,vs,nm,ar⟩ l).k, .int .i64 (ybm ⟨12,vk,vm,vs,nm,ar⟩ l).m, .string (ybm ⟨12,vk,vm,vs,nm,ar⟩ l).s])/\Below w.heap.size w w':=by
 have hm:=h.len
 have hB0:Below w.heap.size w ((w.alloc (.cells #[.int .i64 12, .int .i64 vk, .int .i64 vm, .string vs, .string nm, .int .i64 ar] 48)).alloc (.cells #[.int .i64 0, .int .i64 0, .string ⟨#[]⟩] 46)):=(zae _ _).alloc qH _
 have hl2:l.length=2:=hl
 obtain ⟨b,o,rfl,hc⟩:=h.opn qF
 match l,hl2 with
 | [u,v],_=>
  obtain ⟨x1,x2,x3⟩:=hc 0 u rfl
  obtain ⟨y1,y2,y3⟩:=hc 1 v rfl
  simp only [Nat.zero_mul,Nat.add_zero,Nat.one_mul] at x1 x2 x3 y1 y2 y3
  have hmm:m=2:=hm.symm
  subst hmm
  have x1:=qM hB0 x1
  have x2:=qM hB0 x2
  have x3:=qM hB0 x3
  have y1:=qM hB0 y1
  have y2:=qM hB0 y2
  have y3:=qM hB0 y3
  have hVu:=hval u qH
  have hVv:=hval v qH
  have HB0:=qL hB0
  clear h hc hB0 hval
  show Calls _ _ _ _ fun e w'=>e= .returned (.agg #[.int .i64 (yb3 (decide (ya0 u v<0))).k, .int .i64 (yb3 (decide (ya0 u v<0))).m, .string (yb3 (decide (ya0 u v<0))).s])/\Below w.heap.size w w'
  have HC:=qL fun W=>zfk u v W
  generalize ya0 u v=q at HC ⊢
  have HL:=qL fun W=>zb8 (decide (q<0)) W
  generalize yb3 (decide (q<0))=r at HL ⊢
  go_enter Tryz.func249,Tryz.ntmps249
  go_wp2_with fail
  go_region_with (first |(go_at_call 71;refine (HC.out _).mono ?_;rintro e w5 ⟨rfl,hb5⟩;have hb5:=zb0 hb5;have z0:w5.cell? ⟨w.heap.size+1,0,none⟩=some (.int .i64 0):=qM hb5 qB;have z1:w5.cell? ⟨w.heap.size+1,1,none⟩=some (.int .i64 0):=qM hb5 qB;have z2:w5.cell? ⟨w.heap.size+1,2,none⟩=some (.string ⟨#[]⟩):=qM hb5 qB;have zf: ∀ o,w5.frozen? ⟨w.heap.size+1,o,none⟩=false:=(fun o=>(Below.frozen hb5 (p:=⟨w.heap.size+1,o,none⟩) qE).trans qB);have zs:w.heap.size+1<w5.heap.size:=qQ qE (Below.size hb5))|(go_at_call 276;refine (HL.out _).mono ?_;rintro e w6 ⟨rfl,hb6⟩;(try have hb6:=zb0 hb6);have z0:=qM hb6 z0;have z1:=qM hb6 z1;have z2:=qM hb6 z2;have zf: ∀ o,w6.frozen? ⟨w.heap.size+1,o,none⟩=false:=(fun o=>(Below.frozen hb6 (p:=⟨w.heap.size+1,o,none⟩) zs).trans (zf o));have zs:w.heap.size+1<w6.heap.size:=qQ zs (Below.size hb6)))
  all_goals
   have HB6:=qL (btr (btr HB0.out hb5) hb6)
   clear hb5 hb6
   go_wp2
   exact bodyPost_ret (v:= .agg #[.int .i64 (r).k, .int .i64 (r).m, .string (r).s]) (by simp [results,Tryz.results249,go_sem,z0,z1,z2]) rfl ⟨rfl,(((Below.setCell (HB6.out) (p:=⟨_,0,none⟩) qE _).setCell (p:=⟨_,1,none⟩) qE _).setCell (p:=⟨_,2,none⟩) qE _)⟩
theorem Ydz (vk vm:Int)(vs nm:ByteArray)(ar:Int)(A zA:Option Addr)(m c zN zC:Nat)(l:List Val)(w:World)(h:rVal w A m l)(hl:l.length=2)(hval: ∀ v∈l,yab v=true):
 Calls Tryz.prog 249 #[.agg #[.int .i64 13, .int .i64 vk, .int .i64 vm, .string vs, .string nm, .int .i64 ar], .slice A m c, .slice zA zN zC] w fun e w'=>e= .returned (.agg #[.int .i64 (ybm ⟨13,vk,vm,vs,nm,ar⟩ l).k, .int .i64 (ybm ⟨13,vk,vm,vs,nm,ar⟩ l).m, .string (ybm ⟨13,vk,vm,vs,nm,ar⟩ l).s])/\Below w.heap.size w w':=by
 have hm:=h.len
 have hB0:Below w.heap.size w ((w.alloc (.cells #[.int .i64 13, .int .i64 vk, .int .i64 vm, .string vs, .string nm, .int .i64 ar] 48)).alloc (.cells #[.int .i64 0, .int .i64 0, .string ⟨#[]⟩] 46)):=(zae _ _).alloc qH _
 have hl2:l.length=2:=hl
 obtain ⟨b,o,rfl,hc⟩:=h.opn qF
 match l,hl2 with
 | [u,v],_=>
  obtain ⟨x1,x2,x3⟩:=hc 0 u rfl
  obtain ⟨y1,y2,y3⟩:=hc 1 v rfl
  simp only [Nat.zero_mul,Nat.add_zero,Nat.one_mul] at x1 x2 x3 y1 y2 y3
  have hmm:m=2:=hm.symm
  subst hmm
  have x1:=qM hB0 x1
  have x2:=qM hB0 x2
  have x3:=qM hB0 x3
  have y1:=qM hB0 y1
  have y2:=qM hB0 y2
  have y3:=qM hB0 y3
  have hVu:=hval u qH
  have hVv:=hval v qH
  have HB0:=qL hB0
  clear h hc hB0 hval
  show Calls _ _ _ _ fun e w'=>e= .returned (.agg #[.int .i64 (yb3 (decide (ya0 u v<=0))).k, .int .i64 (yb3 (decide (ya0 u v<=0))).m, .string (yb3 (decide (ya0 u v<=0))).s])/\Below w.heap.size w w'
  have HC:=qL fun W=>zfk u v W
  generalize ya0 u v=q at HC ⊢
  have HL:=qL fun W=>zb8 (decide (q<=0)) W
  generalize yb3 (decide (q<=0))=r at HL ⊢
  go_enter Tryz.func249,Tryz.ntmps249
  go_wp2_with fail
  go_region_with (first |(go_at_call 71;refine (HC.out _).mono ?_;rintro e w5 ⟨rfl,hb5⟩;have hb5:=zb0 hb5;have z0:w5.cell? ⟨w.heap.size+1,0,none⟩=some (.int .i64 0):=qM hb5 qB;have z1:w5.cell? ⟨w.heap.size+1,1,none⟩=some (.int .i64 0):=qM hb5 qB;have z2:w5.cell? ⟨w.heap.size+1,2,none⟩=some (.string ⟨#[]⟩):=qM hb5 qB;have zf: ∀ o,w5.frozen? ⟨w.heap.size+1,o,none⟩=false:=(fun o=>(Below.frozen hb5 (p:=⟨w.heap.size+1,o,none⟩) qE).trans qB);have zs:w.heap.size+1<w5.heap.size:=qQ qE (Below.size hb5))|(go_at_call 276;refine (HL.out _).mono ?_;rintro e w6 ⟨rfl,hb6⟩;(try have hb6:=zb0 hb6);have z0:=qM hb6 z0;have z1:=qM hb6 z1;have z2:=qM hb6 z2;have zf: ∀ o,w6.frozen? ⟨w.heap.size+1,o,none⟩=false:=(fun o=>(Below.frozen hb6 (p:=⟨w.heap.size+1,o,none⟩) zs).trans (zf o));have zs:w.heap.size+1<w6.heap.size:=qQ zs (Below.size hb6)))
  all_goals
   have HB6:=qL (btr (btr HB0.out hb5) hb6)
   clear hb5 hb6
   go_wp2
   exact bodyPost_ret (v:= .agg #[.int .i64 (r).k, .int .i64 (r).m, .string (r).s]) (by simp [results,Tryz.results249,go_sem,z0,z1,z2]) rfl ⟨rfl,(((Below.setCell (HB6.out) (p:=⟨_,0,none⟩) qE _).setCell (p:=⟨_,1,none⟩) qE _).setCell (p:=⟨_,2,none⟩) qE _)⟩
theorem Yd0 (vk vm:Int)(vs nm:ByteArray)(ar:Int)(A zA:Option Addr)(m c zN zC:Nat)(l:List Val)(w:World)(h:rVal w A m l)(hl:l.length=1)(hval: ∀ v∈l,yab v=true):
 Calls Tryz.prog 249 #[.agg #[.int .i64 19, .int .i64 vk, .int .i64 vm, .string vs, .string nm, .int .i64 ar], .slice A m c, .slice zA zN zC] w fun e w'=>e= .returned (.agg #[.int .i64 (ybm ⟨19,vk,vm,vs,nm,ar⟩ l).k, .int .i64 (ybm ⟨19,vk,vm,vs,nm,ar⟩ l).m, .string (ybm ⟨19,vk,vm,vs,nm,ar⟩ l).s])/\Below w.heap.size w w':=by
 have hm:=h.len
 have hB0:Below w.heap.size w ((w.alloc (.cells #[.int .i64 19, .int .i64 vk, .int .i64 vm, .string vs, .string nm, .int .i64 ar] 48)).alloc (.cells #[.int .i64 0, .int .i64 0, .string ⟨#[]⟩] 46)):=(zae _ _).alloc qH _
 have hl1:l.length=1:=hl
 obtain ⟨b,o,rfl,hc⟩:=h.opn qF
 match l,hl1 with
 | [u],_=>
  obtain ⟨x1,x2,x3⟩:=hc 0 u rfl
  simp only [Nat.zero_mul,Nat.add_zero,Nat.one_mul] at x1 x2 x3
  have hmm:m=1:=hm.symm
  subst hmm
  have x1:=qM hB0 x1
  have x2:=qM hB0 x2
  have x3:=qM hB0 x3
  have hVu:=hval u qH
  have HB0:=qL hB0
  clear h hc hB0 hval
  show Calls _ _ _ _ fun e w'=>e= .returned (.agg #[.int .i64 ((⟨2,(u.s.size:Nat),⟨#[]⟩⟩:Val)).k, .int .i64 ((⟨2,(u.s.size:Nat),⟨#[]⟩⟩:Val)).m, .string ((⟨2,(u.s.size:Nat),⟨#[]⟩⟩:Val)).s])/\Below w.heap.size w w'
  have HN:=qL fun W=>zdg (u.s.size:Nat) true W
  go_enter Tryz.func249,Tryz.ntmps249
  go_wp2_with fail
  refine (HN.out _).mono ?_
  rintro e w6 ⟨rfl,hb6⟩
  have z0:w6.cell? ⟨w.heap.size+1,0,none⟩=some (.int .i64 0):=qM hb6 qB;have z1:w6.cell? ⟨w.heap.size+1,1,none⟩=some (.int .i64 0):=qM hb6 qB;have z2:w6.cell? ⟨w.heap.size+1,2,none⟩=some (.string ⟨#[]⟩):=qM hb6 qB;have zf: ∀ o,w6.frozen? ⟨w.heap.size+1,o,none⟩=false:=(fun o=>(Below.frozen hb6 (p:=⟨w.heap.size+1,o,none⟩) qE).trans qB);have zs:w.heap.size+1<w6.heap.size:=qQ qE (Below.size hb6)
  have HB6:=qL (btr HB0.out hb6)
  clear hb6
  go_wp2
  exact bodyPost_ret (v:= .agg #[.int .i64 2, .int .i64 (u.s.size:Nat), .string ⟨#[]⟩]) (by simp [results,Tryz.results249,go_sem,z0,z1,z2,ymp]) rfl ⟨rfl,(((Below.setCell (HB6.out) (p:=⟨_,0,none⟩) qE _).setCell (p:=⟨_,1,none⟩) qE _).setCell (p:=⟨_,2,none⟩) qE _)⟩
theorem zoh {y:ByteArray × Int × List Shf}(hy:y∈zoneL)(m:Int):yis y.1 m=yd0 m y.2.2 0 y.2.1:=by
 have hf: ∀ z,zoneL.find? (yfv y.1)=some z->z=y->yis y.1 m=yd0 m y.2.2 0 y.2.1:=fun z h e=>by
  unfold yis
  rw [h,e]
 simp only [zoneL,List.mem_cons,List.not_mem_nil,or_false] at hy
 rcases hy with rfl|rfl|rfl
 ·exact hf _ (by simp [zoneL,yfv,ByteArray.toList_eq]) rfl
 ·exact hf _ (by simp [zoneL,yfv,ByteArray.toList_eq]) rfl
 ·exact hf _ (by simp [zoneL,yfv,ByteArray.toList_eq]) rfl
theorem Yd1 (vk vm:Int)(vs:ByteArray)(y:ByteArray × Int × List Shf)(ar:Int)(A zA:Option Addr)(m c zN zC:Nat)(l:List Val)(w:World)(h:rVal w A m l)(hl:l.length=1)(hz:rZns w zA zN)(hy:y∈zoneL)(ht: ∀ v∈l,0<=v.m/\v.m<=575999999):
 Calls Tryz.prog 249 #[.agg #[.int .i64 20, .int .i64 vk, .int .i64 vm, .string vs, .string y.1, .int .i64 ar], .slice A m c, .slice zA zN zC] w fun e w'=>e= .returned (.agg #[.int .i64 (ybm ⟨20,vk,vm,vs,y.1,ar⟩ l).k, .int .i64 (ybm ⟨20,vk,vm,vs,y.1,ar⟩ l).m, .string (ybm ⟨20,vk,vm,vs,y.1,ar⟩ l).s])/\Below w.heap.size w w':=by
 have hm:=h.len
 have hB0:Below w.heap.size w ((w.alloc (.cells #[.int .i64 20, .int .i64 vk, .int .i64 vm, .string vs, .string y.1, .int .i64 ar] 48)).alloc (.cells #[.int .i64 0, .int .i64 0, .string ⟨#[]⟩] 46)):=(zae _ _).alloc qH _
 have hl1:l.length=1:=hl
 obtain ⟨b,o,rfl,hc⟩:=h.opn qF
 match l,hl1 with
 | [u],_=>
  obtain ⟨x1,x2,x3⟩:=hc 0 u rfl
  simp only [Nat.zero_mul,Nat.add_zero,Nat.one_mul] at x1 x2 x3
  have hmm:m=1:=hm.symm
  subst hmm
  obtain ⟨t0,t1⟩:=ht u qH
  obtain ⟨zs,j,z,g1,g2,g3,g4,g5,g6⟩:=zqu hz hy
  obtain ⟨q1,q2,q3,q4⟩:=zfr y hy
  have hn1:zN<=100000:=by have:=hz.len;omega
  have HF:=qL (zow zA zN zC zs y.1 j z _ (g1.later hB0) hn1 g2 g3)
  have HD:=qL fun W (hb:Below w.heap.size w W)=>dayX z y.2.2 u.m W (g6.later hb) q1 (by rw [<-g6.len];exact q2) (by rw [g5];exact q3) (by rw [g5];exact q4) t0 t1
  have HV:Hid (ybm ⟨20,vk,vm,vs,y.1,ar⟩ [u]=⟨2,yd0 u.m y.2.2 0 z.off,⟨#[]⟩⟩):=qL (by
   show (⟨2,yis y.1 u.m,⟨#[]⟩⟩:Val)=_
   have:yis y.1 u.m=yd0 u.m y.2.2 0 z.off:=by
    rw [g5]
    exact zoh hy u.m
   rw [this])
  rw [HV.out]
  generalize yd0 u.m y.2.2 0 z.off=dd at HD ⊢
  have x2:=qM hB0 x2
  have HB0:=qL hB0
  clear hn1 h hc hB0 ht hz hy g1 g2 g3 g4 g5 g6 q1 q2 q3 q4 x1 x3 HV
  go_enter Tryz.func249,Tryz.ntmps249
  go_wp2_with fail
  refine HF.out.mono ?_
  rintro e w5 ⟨rfl,hb5⟩
  have z0:w5.cell? ⟨w.heap.size+1,0,none⟩=some (.int .i64 0):=qM hb5 qB;have z1:w5.cell? ⟨w.heap.size+1,1,none⟩=some (.int .i64 0):=qM hb5 qB;have z2:w5.cell? ⟨w.heap.size+1,2,none⟩=some (.string ⟨#[]⟩):=qM hb5 qB;have zf: ∀ o,w5.frozen? ⟨w.heap.size+1,o,none⟩=false:=(fun o=>(Below.frozen hb5 (p:=⟨w.heap.size+1,o,none⟩) qE).trans qB);have zs:w.heap.size+1<w5.heap.size:=qQ qE (Below.size hb5)
  have HB5:=qL (btr HB0.out hb5)
  have x2:=qM hb5 x2
  clear hb5 HF
  have HA:Hid (Below w5.heap.size w5 (w5.alloc (.cells #[.string z.nm, .int .i64 z.off, .slice z.shA z.shN z.shC] 80))):=qL (zae _ _)
  have k0:(w5.alloc (.cells #[.string z.nm, .int .i64 z.off, .slice z.shA z.shN z.shC] 80)).cell? ⟨w5.heap.size,0,none⟩=some (.string z.nm):=by simp
  have k1:(w5.alloc (.cells #[.string z.nm, .int .i64 z.off, .slice z.shA z.shN z.shC] 80)).cell? ⟨w5.heap.size,1,none⟩=some (.int .i64 z.off):=by simp
  have k2:(w5.alloc (.cells #[.string z.nm, .int .i64 z.off, .slice z.shA z.shN z.shC] 80)).cell? ⟨w5.heap.size,2,none⟩=some (.slice z.shA z.shN z.shC):=by simp
  have x2:=qM HA.out x2
  have z0:=qM HA.out z0;have z1:=qM HA.out z1;have z2:=qM HA.out z2;have zf: ∀ o,(w5.alloc (.cells #[.string z.nm, .int .i64 z.off, .slice z.shA z.shN z.shC] 80)).frozen? ⟨w.heap.size+1,o,none⟩=false:=(fun o=>(Below.frozen HA.out (p:=⟨w.heap.size+1,o,none⟩) zs).trans (zf o));have zs:w.heap.size+1<(w5.alloc (.cells #[.string z.nm, .int .i64 z.off, .slice z.shA z.shN z.shC] 80)).heap.size:=qQ zs (Below.size HA.out)
  have HB6:=qL (btr HB5.out HA.out)
  have f0:=Gro.cell k0
  have f1:=Gro.cell k1
  have f2:=Gro.cell k2
  have f3:=Gro.cell x2
  obtain ⟨w6,hw6⟩: ∃ w6,w6=w5.alloc (.cells #[.string z.nm, .int .i64 z.off, .slice z.shA z.shN z.shC] 80):=⟨_,rfl⟩
  rw [<-hw6] at z0 z1 z2 zf zs HB6 f0 f1 f2 f3
  clear k0 k1 k2 x2 HA
  go_wp2_with fail
  rw [<-hw6]
  clear hw6
  refine zai qG qG ?_;(repeat (go_big_quiet_step ((go_at_call 280;exact Calls.gro_of (HD.out _ (btr HB6.out (Gro.below _)))))));refine wpQuiet_nil ?_;intro _ hw';obtain ⟨pq,hw''⟩:=hw';subst hw'';have hbq:=pq.below;revert hbq;generalize pq.world=wq;intro hbq
  have z0:=qM hbq z0;have z1:=qM hbq z1;have z2:=qM hbq z2;have zf: ∀ o,wq.frozen? ⟨w.heap.size+1,o,none⟩=false:=(fun o=>(Below.frozen hbq (p:=⟨w.heap.size+1,o,none⟩) zs).trans (zf o));have zs:w.heap.size+1<wq.heap.size:=qQ zs (Below.size hbq)
  have HBQ:=qL (btr HB6.out hbq)
  have HN:=qL fun W=>zdg dd true W
  clear hbq f0 f1 f2 f3
  go_wp2_with fail
  refine (HN.out _).mono ?_
  rintro e w7 ⟨rfl,hb7⟩
  have z0:=qM hb7 z0;have z1:=qM hb7 z1;have z2:=qM hb7 z2;have zf: ∀ o,w7.frozen? ⟨w.heap.size+1,o,none⟩=false:=(fun o=>(Below.frozen hb7 (p:=⟨w.heap.size+1,o,none⟩) zs).trans (zf o));have zs:w.heap.size+1<w7.heap.size:=qQ zs (Below.size hb7)
  have HB7:=qL (btr HBQ.out hb7)
  clear hb7
  go_wp2
  exact bodyPost_ret (v:= .agg #[.int .i64 2, .int .i64 dd, .string ⟨#[]⟩]) (by simp [results,Tryz.results249,go_sem,z0,z1,z2,ymp]) rfl ⟨rfl,(((Below.setCell (HB7.out) (p:=⟨_,0,none⟩) qE _).setCell (p:=⟨_,1,none⟩) qE _).setCell (p:=⟨_,2,none⟩) qE _)⟩
theorem yq6 (op vk vm:Int)(vs nm:ByteArray)(ar:Int)(A zA:Option Addr)(m c zN zC:Nat)(l:List Val)(w:World)(h:rVal w A m l)(hl:l.length=2)(hval: ∀ v∈l,yab v=true)(h4:4<=op)(h8:op<=8):
 Calls Tryz.prog 249 #[.agg #[.int .i64 op, .int .i64 vk, .int .i64 vm, .string vs, .string nm, .int .i64 ar], .slice A m c, .slice zA zN zC] w fun e w'=>e= .returned (.agg #[.int .i64 (ybm ⟨op,vk,vm,vs,nm,ar⟩ l).k, .int .i64 (ybm ⟨op,vk,vm,vs,nm,ar⟩ l).m, .string (ybm ⟨op,vk,vm,vs,nm,ar⟩ l).s])/\Below w.heap.size w w':=by
 have hm:=h.len
 have hB0:Below w.heap.size w ((w.alloc (.cells #[.int .i64 op, .int .i64 vk, .int .i64 vm, .string vs, .string nm, .int .i64 ar] 48)).alloc (.cells #[.int .i64 0, .int .i64 0, .string ⟨#[]⟩] 46)):=(zae _ _).alloc qH _
 have hl2:l.length=2:=hl
 obtain ⟨b,o,rfl,hc⟩:=h.opn qF
 match l,hl2 with
 | [u,v],_=>
  obtain ⟨x1,x2,x3⟩:=hc 0 u rfl
  obtain ⟨y1,y2,y3⟩:=hc 1 v rfl
  simp only [Nat.zero_mul,Nat.add_zero,Nat.one_mul] at x1 x2 x3 y1 y2 y3
  have hmm:m=2:=hm.symm
  subst hmm
  have x1:=qM hB0 x1
  have x2:=qM hB0 x2
  have x3:=qM hB0 x3
  have y1:=qM hB0 y1
  have y2:=qM hB0 y2
  have y3:=qM hB0 y3
  have hVu:=hval u qH
  have hVv:=hval v qH
  have HV:Hid (ybm ⟨op,vk,vm,vs,nm,ar⟩ [u,v]=yhd op u v):=qL (by
   have:op=4∨op=5∨op=6∨op=7∨op=8:=by omega
   rcases this with rfl|rfl|rfl|rfl|rfl<;>rfl)
  have HL:=qL fun W=>ariX op u v W h4 h8 (zch hVu).1 (zch hVu).2 (zch hVv).1 (zch hVv).2
  rw [HV.out]
  generalize yhd op u v=r at HL ⊢
  have d0:(op==2)=false:=by simp;omega
  have d1:(op==3)=false:=by simp;omega
  have d2:(op==9)=false:=by simp;omega
  have d3:(op==10)=false:=by simp;omega
  have d4:(op==11)=false:=by simp;omega
  have d5:(op==12)=false:=by simp;omega
  have d6:(op==13)=false:=by simp;omega
  have d7:(op==19)=false:=by simp;omega
  have d8:(op==20)=false:=by simp;omega
  have HB0:=qL hB0
  clear h hc hB0 hval hVu hVv h4 h8 HV
  go_enter Tryz.func249,Tryz.ntmps249
  go_wp2_with fail
  go_region_with (go_at_call 281;refine (HL.out _).mono ?_;rintro e w6 ⟨rfl,hb6⟩;have hb6:=zb0 hb6;have z0:w6.cell? ⟨w.heap.size+1,0,none⟩=some (.int .i64 0):=qM hb6 qB;have z1:w6.cell? ⟨w.heap.size+1,1,none⟩=some (.int .i64 0):=qM hb6 qB;have z2:w6.cell? ⟨w.heap.size+1,2,none⟩=some (.string ⟨#[]⟩):=qM hb6 qB;have zf: ∀ o,w6.frozen? ⟨w.heap.size+1,o,none⟩=false:=(fun o=>(Below.frozen hb6 (p:=⟨w.heap.size+1,o,none⟩) qE).trans qB);have zs:w.heap.size+1<w6.heap.size:=qQ qE (Below.size hb6))
  all_goals
   have HB6:=qL (btr HB0.out hb6)
   clear hb6
   go_wp2
   exact bodyPost_ret (v:= .agg #[.int .i64 (r).k, .int .i64 (r).m, .string (r).s]) (by simp [results,Tryz.results249,go_sem,z0,z1,z2]) rfl ⟨rfl,(((Below.setCell (HB6.out) (p:=⟨_,0,none⟩) qE _).setCell (p:=⟨_,1,none⟩) qE _).setCell (p:=⟨_,2,none⟩) qE _)⟩
theorem okSt.valid : ∀ {ts:List Knd} {vs:List Val} (_:okSt ts vs),∀ v∈vs,yab v=true
 | [],[],_=>fun v h=>by cases h
 |t::ts,u::vs,h=>fun v hv=>by
  rcases qY hv with rfl|hv
  ·exact h.1.1
  ·exact okSt.valid h.2 v hv
theorem aplX {cs:List Col}(x:Nod)(A zA:Option Addr)(m c zN zC:Nat)(ts:List Knd)(t:Knd)(l:List Val)(w:World)(hx:okN cs x)(h:rVal w A m l)(hl:l.length=arN x.op)(hs:okSt ts l)(ht:ybg cs x ts=some t)(hn:ycb l=false)(h1:x.op≠1)(hsp:yen x l=none)(hz:rZns w zA zN):
 Calls Tryz.prog 249 #[.agg #[.int .i64 x.op, .int .i64 x.vk, .int .i64 x.vm, .string x.vs, .string x.nm, .int .i64 x.ar], .slice A m c, .slice zA zN zC] w fun e w'=>e= .returned (.agg #[.int .i64 (ybm x l).k, .int .i64 (ybm x l).m, .string (ybm x l).s])/\Below w.heap.size w w':=by
 have hval: ∀ v∈l,yab v=true:=okSt.valid hs
 obtain ⟨hf,_⟩:=zeq h1 ht
 have hlo:=hx.lo
 have hhi:=hx.hi
 have hday:=hx.day
 have hne:x.op≠0/\x.op≠14/\x.op≠15/\x.op≠16/\x.op≠17/\x.op≠18:=by
  refine ⟨fun e=>?_,fun e=>?_,fun e=>?_,fun e=>?_,fun e=>?_,fun e=>?_⟩<;>unfold yen at hsp
  ·rw [if_pos e] at hsp;cases hsp
  ·rw [if_neg qF,if_pos e] at hsp;cases hsp
  ·rw [if_neg qF,if_neg qF,if_pos e] at hsp;cases hsp
  ·rw [if_neg qF,if_neg qF,if_neg qF,if_pos e] at hsp;cases hsp
  ·rw [if_neg qF,if_neg qF,if_neg qF,if_neg qF,if_pos e] at hsp;cases hsp
  ·rw [if_neg qF,if_neg qF,if_neg qF,if_neg qF,if_neg qF,if_pos e] at hsp;cases hsp
 obtain ⟨op,vk,vm,vs,nm,ar⟩:=x
 simp only at hlo hhi h1 hday hne hl
 have hop:op=2∨op=3∨(4<=op/\op<=8)∨op=9∨op=10∨op=11∨op=12∨op=13∨op=19∨op=20:=by omega
 rcases hop with rfl|rfl|⟨h4,h8⟩|rfl|rfl|rfl|rfl|rfl|rfl|rfl
 ·exact apl2 vk vm vs nm ar A zA m c zN zC l w h hl hval
 ·exact apl3 vk vm vs nm ar A zA m c zN zC l w h hl hval
 ·have hl2:l.length=2:=by
   rw [hl]
   have:op=4∨op=5∨op=6∨op=7∨op=8:=by omega
   rcases this with rfl|rfl|rfl|rfl|rfl<;>rfl
  exact yq6 op vk vm vs nm ar A zA m c zN zC l w h hl2 hval h4 h8
 ·exact apl9 vk vm vs nm ar A zA m c zN zC l w h hl hval
 ·exact Ydw vk vm vs nm ar A zA m c zN zC l w h hl hval
 ·exact Ydx vk vm vs nm ar A zA m c zN zC l w h hl hval
 ·exact Ydy vk vm vs nm ar A zA m c zN zC l w h hl hval
 ·exact Ydz vk vm vs nm ar A zA m c zN zC l w h hl hval
 ·exact Yd0 vk vm vs nm ar A zA m c zN zC l w h hl hval
 ·obtain ⟨y,hy,e⟩:=hday rfl
  subst e
  refine Yd1 vk vm vs y ar A zA m c zN zC l w h hl hz hy fun v hv=>?_
  have hl1:l.length=1:=hl
  match l,ts,hs,hl1 with
  | [u],[a],hs,_=>
   rw [List.mem_singleton] at hv
   subst hv
   have hn0:(ya0 v zV==0)=false:=by
    have:(ya0 v zV==0 || ycb [])=false:=hn
    rw [Bool.or_eq_false_iff] at this
    exact this.1
   exact zfq hs.1.1 (zdc (k:=4) hs.1 hn0 hf)
end
end
end Go.Proofs.YthcalfeoejdcgaaGreatDoor
