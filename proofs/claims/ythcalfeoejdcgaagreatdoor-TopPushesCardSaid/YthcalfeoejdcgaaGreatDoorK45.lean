import Derived.Test.YthcalfeoejdcgaaGreatDoorK31
import Derived.Deep.RegionHeld3
namespace Go.Proofs.YthcalfeoejdcgaaGreatDoor
set_option linter.unusedSimpArgs false
set_option linter.unusedVariables false
set_option maxRecDepth 100000
set_option maxHeartbeats 20000000
section
open Go.BigFrame Go.RowKit
theorem ok5 {cs:List Col}{N:Nat}{p q:List Nod}{t:Knd}(ht:t.k=4)(hp:okE cs 4 N p)(g1:q.length<=N)(g2: ∀ n∈q,okN cs n)(g4:ycx cs q t):okE cs 2 (1+2*N) (ya1 [p,q]++ [opN 5]):=by
 obtain ⟨l1,n1,a,ha,b1⟩:=hp
 obtain ⟨u,hu,hk⟩:=k5d (cs:=cs) ha ht
 have e:ya1 [p,q]++ [opN 5]=p++(q++ [opN 5]):=by simp [ya1]
 rw [e]
 refine ⟨by simp;omega,fun n hn=>?_,u,hk,Yd5 b1 g4 (by decide) hu⟩
 rcases List.mem_append.1 hn with h|h
 ·exact n1 n h
 rcases List.mem_append.1 h with h|h
 ·exact g2 n h
 ·rw [List.mem_singleton] at h;subst h;exact zcz qF qF
theorem ok20 {cs:List Col}{N:Nat}{p:List Nod}{y:ByteArray × Int × List Shf}(hy:y∈zoneL)(hp:okE cs 4 N p):okE cs 2 (1+N) (p++ [⟨20,0,0,⟨#[]⟩,y.1,0⟩]):=by
 obtain ⟨l1,n1,a,ha,b1⟩:=hp
 refine ⟨by simp;omega,fun n hn=>?_,⟨2,a.nl⟩, .inl rfl,blk1 b1 (by show arN 20=1;decide) ?_⟩
 ·rcases List.mem_append.1 hn with h|h
  ·exact n1 n h
  ·rw [List.mem_singleton] at h
   subst h
   exact ⟨rfl,by show (0:Int)<=20;omega,by show (20:Int)<=20;omega,fun h=>by have h:(20:Int)=0:=h;omega,fun _=>⟨rfl,rfl,rfl⟩,fun h=>by have h:(20:Int)=1:=h;omega,fun _=>⟨y,hy,rfl⟩,fun _ _ h=>absurd rfl h⟩
 ·have h:=zcp (cs:=cs) (n:=⟨20,0,0,⟨#[]⟩,y.1,0⟩) (l:= [a]) (by show ¬ (20:Int)=1;decide) (show yaf a 4=true from zco ha)
  rw [h]
  show some (⟨2,[a].any Knd.nl⟩:Knd)=some ⟨2,a.nl⟩
  simp
theorem zhj (w:World)(op vk vm:Int)(vs nm:ByteArray)(ar:Int){b:Nat}(hb:w.heap.size=b): ∀ j u,(yaz ⟨op,vk,vm,vs,nm,ar⟩)[j]?=some u->(w.alloc (.cells #[.int .i64 op, .int .i64 vk, .int .i64 vm, .string vs, .string nm, .int .i64 ar] 48)).cell? ((⟨b,0,none⟩:Addr).add j)=some u:=by
 subst hb
 exact zem w 48 op vk vm vs nm ar
theorem zkh {w W w2:World}{v:Value}{n:Nat}{p:List Nod}(h:ownD ye3 w2 W.heap.size v n p)(hb:Below W.heap.size W w2)(hW:Below w.heap.size w W):Below w.heap.size w w2/\ownD ye3 w2 w.heap.size v n p:=⟨btr hW hb,h.mono hW.size⟩
theorem zca {i:TypeInfo}(PN:KinP Tryz.prog ye3 25 i (.agg #[.int .i64 0, .int .i64 0, .int .i64 0, .string ⟨#[]⟩, .string ⟨#[]⟩, .int .i64 0]) 64){cs:List Col}{N:Nat}{w w2:World}{v2:Value}{n2:Nat}{p2:List Nod}(ho:ownD ye3 w2 w.heap.size v2 n2 p2)(hk:okE cs 4 N p2)(hN:N<=20)(hb:Below w.heap.size w w2){y:ByteArray × Int × List Shf}(hy:y∈zoneL)(W:World)(hW:Below w2.heap.size w2 W)(ad:Addr)(hc: ∀ j u,(yaz ⟨20,0,0,⟨#[]⟩,y.1,0⟩)[j]?=some u->W.cell? (ad.add j)=some u):
 ∃ v u,(Builtin.append_ #[25,25] 25 #[v2, .slice (some ad) 1 1]).run Tryz.prog W= .ok v u/\ycn cs 2 (1+3*N) w (.returned v) u:=by
 obtain ⟨A2,c2,e2,_,hrd2,_⟩:=ho.rd
 have hn2:=hrd2.len
 have hn3:=hk.1
 obtain ⟨v,u,hr,h1,h2,_⟩:=zfo PN W (ho.later hW) 25 ad (⟨20,0,0,⟨#[]⟩,y.1,0⟩:Nod) (⟨20,0,0,⟨#[]⟩,y.1,0⟩:Nod) hc rfl (fun p hp=>by cases hp) qF (btr hb hW).size (c:=1)
 exact ⟨v,u,hr,v,_,_,rfl,h1,(ok20 hy hk).mono qF,zaf (btr hb hW) h2 (fun y e=>(ho.lt y e).1)⟩
theorem zfz {w:World}{b:Nat}{op vk vm:Int}{vs nm:ByteArray}{ar:Int}(h0:w.cell? ⟨b,0,none⟩=some (.int .i64 op))(h1:w.cell? ⟨b,1,none⟩=some (.int .i64 vk))(h2:w.cell? ⟨b,2,none⟩=some (.int .i64 vm))(h3:w.cell? ⟨b,3,none⟩=some (.string vs))(h4:w.cell? ⟨b,4,none⟩=some (.string nm))(h5:w.cell? ⟨b,5,none⟩=some (.int .i64 ar)): ∀ j u,(yaz ⟨op,vk,vm,vs,nm,ar⟩)[j]?=some u->w.cell? ((⟨b,0,none⟩:Addr).add j)=some u:=fun j u hj=>by
 rcases j with _|_|_|_|_|_|j
 ·simp [yaz] at hj;subst hj;exact h0
 ·simp [yaz] at hj;subst hj;exact h1
 ·simp [yaz] at hj;subst hj;exact h2
 ·simp [yaz] at hj;subst hj;exact h3
 ·simp [yaz] at hj;subst hj;exact h4
 ·simp [yaz] at hj;subst hj;exact h5
 ·simp [yaz] at hj
theorem zpo {cs:List Col}(N:Nat)(cA dA:Option Addr)(cN cC dN dC:Nat)(ds:List Int)(at0 depth:Int)(w:World)(hds:rInt w dA dN ds)(hdl:dN<=9223372036854775807)(ha0:0<=at0)(ha1:at0<=1000000000000)(hd0:1<=depth)(hd1:depth<=10)(hN1:1<=N)(hN:N<=20)
 (hok:okCols cs) (hcs: ∀ c∈cs,c.nm∈knownN) (hE:cs∈csE) (hk2: ∀ c∈cs,1<=c.k/\c.k<=4) (hr:rCol w cA cN cs) (hcc:cN<=cC) (hcm:cC<=maxLen)
 (IH: ∀ (kind a:Int) (W:World),1<=kind->kind<=4->(a=2*at0+1∨a=2*at0+2)->Below w.heap.size w W->Calls Tryz.prog 10 #[.int .i64 kind, .slice cA cN cC, .slice dA dN dC, .int .i64 a, .int .i64 (depth - 1)] W (ycn cs kind N W)):
 Calls Tryz.prog 29 #[.slice cA cN cC, .slice dA dN dC, .int .i64 at0, .int .i64 depth] w (ycn cs 2 (1+3*N) w):=by
 have HI:=qL IH
 have HD:=qL hds
 have HU:=qL fun (W:World) (hW:Below w.heap.size w W) (A:Option Addr) (n c:Nat) (p:List Nod) (t:Knd) (h:rNod W A n p) (hn:n<=60) (hk: ∀ x∈p,okN cs x) (hb:ycx cs p t)=>zjx A n c p cA cN cC W h hn hk hb hcs hE hk2 (hr.later hW) hcc hcm
 have HF:=qL fun (W:World) (hW:Below w.heap.size w W) (q:Int) (h0:0<=q) (h1:q<=200000)=>yoo 2 cA cN cC cs q W (hr.later hW) hok qF qF h0 h1
 clear IH hds hok hcs hE hk2 hr
 go_enter Tryz.func29,Tryz.ntmps29
 go_wp2_with fail
 refine (atE dA dN dC ds at0 w HD.out hdl).mono ?_
 rintro e w1 ⟨q,rfl,hq0,hq1,hb1⟩
 have HB1:=qL hb1
 clear hb1
 have e0:q.tmod 9=q % 9:=Int.tmod_eq_emod_of_nonneg hq0
 have e1:q.tdiv 9=q / 9:=Int.tdiv_eq_ediv_of_nonneg hq0
 have e2:(q / 9).tmod 5=(q / 9) % 5:=Int.tmod_eq_emod_of_nonneg qF
 have e3:(q / 9).tmod 3=(q / 9) % 3:=Int.tmod_eq_emod_of_nonneg qF
 obtain ⟨r,hr⟩: ∃ r,r=q % 9:=⟨_,rfl⟩
 have hr1:0<=r/\r<=8:=by omega
 by_cases hr0:r=0
 ·go_wp2_with fail
  refine (HI.out 2 (2*at0+1) w1 qF qF (.inl rfl) HB1.out).mono ?_
  rintro e w2 h2
  obtain ⟨A,n,c,p,rfl,hc,hn,hr2,hk,hl,_,hb2⟩:=za1 h2
  have HP:=qL hr2
  have HK:=qL hk
  have HB2:Hid (Below w.heap.size w w2):=qL (btr HB1.out hb2)
  clear h2 hr2 hk hb2
  go_wp2_with fail
  refine (yhc 3 _ 1 1 [p] _ (Yc0 25 w2 A n c p HP.out) qF (fun x hx=>by rw [List.mem_singleton] at hx;subst hx;omega)).mono ?_
  intro e w3 h3
  have h4:=zbj (HB2.out.alloc HB2.out.size _) ((Yc5 (by decide) (zcz qF qF) (fun a ha=>k3 ha) HK.out).mono (by omega:1+N<=1+3*N)) h3
  obtain ⟨v4,m4,p4,rfl,ho4,hk4,hb4⟩:=h4
  have HE:Hid (ycn cs 2 (1+3*N) w (.returned v4) w3):=qL ⟨v4,m4,p4,rfl,ho4,hk4,hb4⟩
  clear h3 ho4 hk4 hb4
  go_wp2_with fail
  exact bodyPost_ret (v:=v4) (by simp [results,Tryz.results29,go_sem]) rfl HE.out
 by_cases hr1':r=1
 ·go_wp2_with fail
  refine (HI.out 3 (2*at0+1) w1 qF qF (.inl rfl) HB1.out).mono ?_
  rintro e w2 h2
  obtain ⟨A,n,c,p,rfl,hc,hn,hr2,hk,hl,_,hb2⟩:=za1 h2
  have HP:=qL hr2
  have HK:=qL hk
  have HB2:Hid (Below w.heap.size w w2):=qL (btr HB1.out hb2)
  clear h2 hr2 hk hb2
  go_wp2_with fail
  refine (yhc 19 _ 1 1 [p] _ (Yc0 25 w2 A n c p HP.out) qF (fun x hx=>by rw [List.mem_singleton] at hx;subst hx;omega)).mono ?_
  intro e w3 h3
  have h4:=zbj (HB2.out.alloc HB2.out.size _) ((Yc5 (by decide) (zcz qF qF) (fun a ha=>k19 ha) HK.out).mono (by omega:1+N<=1+3*N)) h3
  obtain ⟨v4,m4,p4,rfl,ho4,hk4,hb4⟩:=h4
  have HE:Hid (ycn cs 2 (1+3*N) w (.returned v4) w3):=qL ⟨v4,m4,p4,rfl,ho4,hk4,hb4⟩
  clear h3 ho4 hk4 hb4
  go_wp2_with fail
  exact bodyPost_ret (v:=v4) (by simp [results,Tryz.results29,go_sem]) rfl HE.out
 by_cases hr2':r=2
 ·obtain ⟨iN,PN⟩:=pNod
  have hm:(q / 9) % 3=0∨(q / 9) % 3=1∨(q / 9) % 3=2:=by omega
  clear hr0 hr1' e2
  have hwd:IntKind.i64.wrap (depth - 1)=depth - 1:=by rw [IntKind.wrap_i64];omega
  have hw9:IntKind.i64.wrap (q / 9)=q / 9:=by rw [IntKind.wrap_i64];omega
  rcases hm with hm|hm|hm
  ·have e4:(q / 9).tmod 3=0:=by rw [e3,hm]
   clear e3 hm
   go_wp2_with fail
   go_region_with (go_at_call 10;refine (HI.out 4 (2*at0+1) _ qF qF (.inl rfl) ?_).mono ?_;(with_reducible first |exact HB1.out.drew|exact HB1.out|exact (HB1.out.alloc HB1.out.size _).drew|exact HB1.out.drew.alloc HB1.out.drew.size _|exact ((HB1.out.alloc HB1.out.size _).alloc (HB1.out.alloc HB1.out.size _).size _).drew|exact (HB1.out.drew.alloc HB1.out.drew.size _).alloc (HB1.out.drew.alloc HB1.out.drew.size _).size _);rintro e w2 ⟨v2,n2,p2,rfl,hown2,hk2,hb2⟩;have HQ:Hid (Below w.heap.size w w2/\ownD ye3 w2 w.heap.size v2 n2 p2):=qL (zkh hown2 hb2 (by (with_reducible first |exact HB1.out.drew|exact HB1.out|exact (HB1.out.alloc HB1.out.size _).drew|exact HB1.out.drew.alloc HB1.out.drew.size _|exact ((HB1.out.alloc HB1.out.size _).alloc (HB1.out.alloc HB1.out.size _).size _).drew|exact (HB1.out.drew.alloc HB1.out.drew.size _).alloc (HB1.out.drew.alloc HB1.out.drew.size _).size _)));(try (refine (fun (s0:w2.cell? ⟨w1.heap.size,0,none⟩=some (.string ⟨#[122,48]⟩))=>?_) (qM hb2 ?_);rotate_left;(focus (first |(simp;done)|((repeat (first |(refine zaa ?_ rfl;(simp;done))|(refine zad ?_;(simp;done))|(refine zac ?_ ?_;(focus first |(simp;done)|(simp;omega)))|(refine zab ?_ ?_;(focus first |(simp;done)|(simp;omega)))));done)))));(try (refine (fun (t0:w2.cell? ⟨w1.heap.size+1,0,none⟩=some (.int .i64 20))=>?_) (qM hb2 ?_);rotate_left;(focus (first |(simp;done)|((repeat (first |(refine zaa ?_ rfl;(simp;done))|(refine zad ?_;(simp;done))|(refine zac ?_ ?_;(focus first |(simp;done)|(simp;omega)))|(refine zab ?_ ?_;(focus first |(simp;done)|(simp;omega)))));done)));refine (fun (t1:w2.cell? ⟨w1.heap.size+1,1,none⟩=some (.int .i64 0))=>?_) (qM hb2 ?_);rotate_left;(focus (first |(simp;done)|((repeat (first |(refine zaa ?_ rfl;(simp;done))|(refine zad ?_;(simp;done))|(refine zac ?_ ?_;(focus first |(simp;done)|(simp;omega)))|(refine zab ?_ ?_;(focus first |(simp;done)|(simp;omega)))));done)));refine (fun (t2:w2.cell? ⟨w1.heap.size+1,2,none⟩=some (.int .i64 0))=>?_) (qM hb2 ?_);rotate_left;(focus (first |(simp;done)|((repeat (first |(refine zaa ?_ rfl;(simp;done))|(refine zad ?_;(simp;done))|(refine zac ?_ ?_;(focus first |(simp;done)|(simp;omega)))|(refine zab ?_ ?_;(focus first |(simp;done)|(simp;omega)))));done)));refine (fun (t3:w2.cell? ⟨w1.heap.size+1,3,none⟩=some (.string ⟨#[]⟩))=>?_) (qM hb2 ?_);rotate_left;(focus (first |(simp;done)|((repeat (first |(refine zaa ?_ rfl;(simp;done))|(refine zad ?_;(simp;done))|(refine zac ?_ ?_;(focus first |(simp;done)|(simp;omega)))|(refine zab ?_ ?_;(focus first |(simp;done)|(simp;omega)))));done)));refine (fun (t4:w2.cell? ⟨w1.heap.size+1,4,none⟩=some (.string ⟨#[122,48]⟩))=>?_) (qM hb2 ?_);rotate_left;(focus (first |(simp;done)|((repeat (first |(refine zaa ?_ rfl;(simp;done))|(refine zad ?_;(simp;done))|(refine zac ?_ ?_;(focus first |(simp;done)|(simp;omega)))|(refine zab ?_ ?_;(focus first |(simp;done)|(simp;omega)))));done)));refine (fun (t5:w2.cell? ⟨w1.heap.size+1,5,none⟩=some (.int .i64 0))=>?_) (qM hb2 ?_);rotate_left;(focus (first |(simp;done)|((repeat (first |(refine zaa ?_ rfl;(simp;done))|(refine zad ?_;(simp;done))|(refine zac ?_ ?_;(focus first |(simp;done)|(simp;omega)))|(refine zab ?_ ?_;(focus first |(simp;done)|(simp;omega)))));done)));obtain ⟨v5,u5,hr5,he5⟩:=zca PN HQ.out.2 hk2 hN HQ.out.1 (y:=zoneL[0]) (by simp [zoneL]) w2 (za0 _) ⟨w1.heap.size+1,0,none⟩ (zfz t0 t1 t2 t3 t4 t5);have HE5:=qL he5;clear he5;simp [go_sem] at hr5));(obtain ⟨v3,u3,hr3,he3⟩:=zca PN HQ.out.2 hk2 hN HQ.out.1 (y:=zoneL[0]) (by simp [zoneL]) ((w2.alloc (.cells #[.string ⟨#[122,48]⟩, .string ⟨#[122,49]⟩, .string ⟨#[122,50]⟩] 9)).alloc (.cells #[.int .i64 20, .int .i64 0, .int .i64 0, .string ⟨#[]⟩, .string ⟨#[122,48]⟩, .int .i64 0] 48)) ((zae w2 (.cells #[.string ⟨#[122,48]⟩, .string ⟨#[122,49]⟩, .string ⟨#[122,50]⟩] 9)).alloc qH (.cells #[.int .i64 20, .int .i64 0, .int .i64 0, .string ⟨#[]⟩, .string ⟨#[122,48]⟩, .int .i64 0] 48)) ⟨w2.heap.size+1,0,none⟩ (zhj (w2.alloc (.cells #[.string ⟨#[122,48]⟩, .string ⟨#[122,49]⟩, .string ⟨#[122,50]⟩] 9)) _ _ _ _ _ _ qH));(obtain ⟨v4,u4,hr4,he4⟩:=zca PN HQ.out.2 hk2 hN HQ.out.1 (y:=zoneL[0]) (by simp [zoneL]) (w2.alloc (.cells #[.int .i64 20, .int .i64 0, .int .i64 0, .string ⟨#[]⟩, .string ⟨#[122,48]⟩, .int .i64 0] 48)) (zae w2 (.cells #[.int .i64 20, .int .i64 0, .int .i64 0, .string ⟨#[]⟩, .string ⟨#[122,48]⟩, .int .i64 0] 48)) ⟨w2.heap.size,0,none⟩ (zhj w2 _ _ _ _ _ _ rfl));have HE3:=qL he3;have HE4:=qL he4;clear he3 he4 hown2 hb2 hk2;simp [go_sem] at hr3;simp [go_sem] at hr4)
   all_goals
    go_wp2_with fail
    first
     |exact bodyPost_ret (v:=v3) (by simp [results,Tryz.results29,go_sem]) rfl HE3.out
     |exact bodyPost_ret (v:=v4) (by simp [results,Tryz.results29,go_sem]) rfl HE4.out
     |exact bodyPost_ret (v:=v5) (by simp [results,Tryz.results29,go_sem]) rfl HE5.out
  ·have e4:(q / 9).tmod 3=1:=by rw [e3,hm]
   clear e3 hm
   go_wp2_with fail
   go_region_with (go_at_call 10;refine (HI.out 4 (2*at0+1) _ qF qF (.inl rfl) ?_).mono ?_;(with_reducible first |exact HB1.out.drew|exact HB1.out|exact (HB1.out.alloc HB1.out.size _).drew|exact HB1.out.drew.alloc HB1.out.drew.size _|exact ((HB1.out.alloc HB1.out.size _).alloc (HB1.out.alloc HB1.out.size _).size _).drew|exact (HB1.out.drew.alloc HB1.out.drew.size _).alloc (HB1.out.drew.alloc HB1.out.drew.size _).size _);rintro e w2 ⟨v2,n2,p2,rfl,hown2,hk2,hb2⟩;have HQ:Hid (Below w.heap.size w w2/\ownD ye3 w2 w.heap.size v2 n2 p2):=qL (zkh hown2 hb2 (by (with_reducible first |exact HB1.out.drew|exact HB1.out|exact (HB1.out.alloc HB1.out.size _).drew|exact HB1.out.drew.alloc HB1.out.drew.size _|exact ((HB1.out.alloc HB1.out.size _).alloc (HB1.out.alloc HB1.out.size _).size _).drew|exact (HB1.out.drew.alloc HB1.out.drew.size _).alloc (HB1.out.drew.alloc HB1.out.drew.size _).size _)));(try (refine (fun (s0:w2.cell? ⟨w1.heap.size,1,none⟩=some (.string ⟨#[122,49]⟩))=>?_) (qM hb2 ?_);rotate_left;(focus (first |(simp;done)|((repeat (first |(refine zaa ?_ rfl;(simp;done))|(refine zad ?_;(simp;done))|(refine zac ?_ ?_;(focus first |(simp;done)|(simp;omega)))|(refine zab ?_ ?_;(focus first |(simp;done)|(simp;omega)))));done)))));(try (refine (fun (t0:w2.cell? ⟨w1.heap.size+1,0,none⟩=some (.int .i64 20))=>?_) (qM hb2 ?_);rotate_left;(focus (first |(simp;done)|((repeat (first |(refine zaa ?_ rfl;(simp;done))|(refine zad ?_;(simp;done))|(refine zac ?_ ?_;(focus first |(simp;done)|(simp;omega)))|(refine zab ?_ ?_;(focus first |(simp;done)|(simp;omega)))));done)));refine (fun (t1:w2.cell? ⟨w1.heap.size+1,1,none⟩=some (.int .i64 0))=>?_) (qM hb2 ?_);rotate_left;(focus (first |(simp;done)|((repeat (first |(refine zaa ?_ rfl;(simp;done))|(refine zad ?_;(simp;done))|(refine zac ?_ ?_;(focus first |(simp;done)|(simp;omega)))|(refine zab ?_ ?_;(focus first |(simp;done)|(simp;omega)))));done)));refine (fun (t2:w2.cell? ⟨w1.heap.size+1,2,none⟩=some (.int .i64 0))=>?_) (qM hb2 ?_);rotate_left;(focus (first |(simp;done)|((repeat (first |(refine zaa ?_ rfl;(simp;done))|(refine zad ?_;(simp;done))|(refine zac ?_ ?_;(focus first |(simp;done)|(simp;omega)))|(refine zab ?_ ?_;(focus first |(simp;done)|(simp;omega)))));done)));refine (fun (t3:w2.cell? ⟨w1.heap.size+1,3,none⟩=some (.string ⟨#[]⟩))=>?_) (qM hb2 ?_);rotate_left;(focus (first |(simp;done)|((repeat (first |(refine zaa ?_ rfl;(simp;done))|(refine zad ?_;(simp;done))|(refine zac ?_ ?_;(focus first |(simp;done)|(simp;omega)))|(refine zab ?_ ?_;(focus first |(simp;done)|(simp;omega)))));done)));refine (fun (t4:w2.cell? ⟨w1.heap.size+1,4,none⟩=some (.string ⟨#[122,49]⟩))=>?_) (qM hb2 ?_);rotate_left;(focus (first |(simp;done)|((repeat (first |(refine zaa ?_ rfl;(simp;done))|(refine zad ?_;(simp;done))|(refine zac ?_ ?_;(focus first |(simp;done)|(simp;omega)))|(refine zab ?_ ?_;(focus first |(simp;done)|(simp;omega)))));done)));refine (fun (t5:w2.cell? ⟨w1.heap.size+1,5,none⟩=some (.int .i64 0))=>?_) (qM hb2 ?_);rotate_left;(focus (first |(simp;done)|((repeat (first |(refine zaa ?_ rfl;(simp;done))|(refine zad ?_;(simp;done))|(refine zac ?_ ?_;(focus first |(simp;done)|(simp;omega)))|(refine zab ?_ ?_;(focus first |(simp;done)|(simp;omega)))));done)));obtain ⟨v5,u5,hr5,he5⟩:=zca PN HQ.out.2 hk2 hN HQ.out.1 (y:=zoneL[1]) (by simp [zoneL]) w2 (za0 _) ⟨w1.heap.size+1,0,none⟩ (zfz t0 t1 t2 t3 t4 t5);have HE5:=qL he5;clear he5;simp [go_sem] at hr5));(obtain ⟨v3,u3,hr3,he3⟩:=zca PN HQ.out.2 hk2 hN HQ.out.1 (y:=zoneL[1]) (by simp [zoneL]) ((w2.alloc (.cells #[.string ⟨#[122,48]⟩, .string ⟨#[122,49]⟩, .string ⟨#[122,50]⟩] 9)).alloc (.cells #[.int .i64 20, .int .i64 0, .int .i64 0, .string ⟨#[]⟩, .string ⟨#[122,49]⟩, .int .i64 0] 48)) ((zae w2 (.cells #[.string ⟨#[122,48]⟩, .string ⟨#[122,49]⟩, .string ⟨#[122,50]⟩] 9)).alloc qH (.cells #[.int .i64 20, .int .i64 0, .int .i64 0, .string ⟨#[]⟩, .string ⟨#[122,49]⟩, .int .i64 0] 48)) ⟨w2.heap.size+1,0,none⟩ (zhj (w2.alloc (.cells #[.string ⟨#[122,48]⟩, .string ⟨#[122,49]⟩, .string ⟨#[122,50]⟩] 9)) _ _ _ _ _ _ qH));(obtain ⟨v4,u4,hr4,he4⟩:=zca PN HQ.out.2 hk2 hN HQ.out.1 (y:=zoneL[1]) (by simp [zoneL]) (w2.alloc (.cells #[.int .i64 20, .int .i64 0, .int .i64 0, .string ⟨#[]⟩, .string ⟨#[122,49]⟩, .int .i64 0] 48)) (zae w2 (.cells #[.int .i64 20, .int .i64 0, .int .i64 0, .string ⟨#[]⟩, .string ⟨#[122,49]⟩, .int .i64 0] 48)) ⟨w2.heap.size,0,none⟩ (zhj w2 _ _ _ _ _ _ rfl));have HE3:=qL he3;have HE4:=qL he4;clear he3 he4 hown2 hb2 hk2;simp [go_sem] at hr3;simp [go_sem] at hr4)
   all_goals
    go_wp2_with fail
    first
     |exact bodyPost_ret (v:=v3) (by simp [results,Tryz.results29,go_sem]) rfl HE3.out
     |exact bodyPost_ret (v:=v4) (by simp [results,Tryz.results29,go_sem]) rfl HE4.out
     |exact bodyPost_ret (v:=v5) (by simp [results,Tryz.results29,go_sem]) rfl HE5.out
  ·have e4:(q / 9).tmod 3=2:=by rw [e3,hm]
   clear e3 hm
   go_wp2_with fail
   go_region_with (go_at_call 10;refine (HI.out 4 (2*at0+1) _ qF qF (.inl rfl) ?_).mono ?_;(with_reducible first |exact HB1.out.drew|exact HB1.out|exact (HB1.out.alloc HB1.out.size _).drew|exact HB1.out.drew.alloc HB1.out.drew.size _|exact ((HB1.out.alloc HB1.out.size _).alloc (HB1.out.alloc HB1.out.size _).size _).drew|exact (HB1.out.drew.alloc HB1.out.drew.size _).alloc (HB1.out.drew.alloc HB1.out.drew.size _).size _);rintro e w2 ⟨v2,n2,p2,rfl,hown2,hk2,hb2⟩;have HQ:Hid (Below w.heap.size w w2/\ownD ye3 w2 w.heap.size v2 n2 p2):=qL (zkh hown2 hb2 (by (with_reducible first |exact HB1.out.drew|exact HB1.out|exact (HB1.out.alloc HB1.out.size _).drew|exact HB1.out.drew.alloc HB1.out.drew.size _|exact ((HB1.out.alloc HB1.out.size _).alloc (HB1.out.alloc HB1.out.size _).size _).drew|exact (HB1.out.drew.alloc HB1.out.drew.size _).alloc (HB1.out.drew.alloc HB1.out.drew.size _).size _)));(try (refine (fun (s0:w2.cell? ⟨w1.heap.size,2,none⟩=some (.string ⟨#[122,50]⟩))=>?_) (qM hb2 ?_);rotate_left;(focus (first |(simp;done)|((repeat (first |(refine zaa ?_ rfl;(simp;done))|(refine zad ?_;(simp;done))|(refine zac ?_ ?_;(focus first |(simp;done)|(simp;omega)))|(refine zab ?_ ?_;(focus first |(simp;done)|(simp;omega)))));done)))));(try (refine (fun (t0:w2.cell? ⟨w1.heap.size+1,0,none⟩=some (.int .i64 20))=>?_) (qM hb2 ?_);rotate_left;(focus (first |(simp;done)|((repeat (first |(refine zaa ?_ rfl;(simp;done))|(refine zad ?_;(simp;done))|(refine zac ?_ ?_;(focus first |(simp;done)|(simp;omega)))|(refine zab ?_ ?_;(focus first |(simp;done)|(simp;omega)))));done)));refine (fun (t1:w2.cell? ⟨w1.heap.size+1,1,none⟩=some (.int .i64 0))=>?_) (qM hb2 ?_);rotate_left;(focus (first |(simp;done)|((repeat (first |(refine zaa ?_ rfl;(simp;done))|(refine zad ?_;(simp;done))|(refine zac ?_ ?_;(focus first |(simp;done)|(simp;omega)))|(refine zab ?_ ?_;(focus first |(simp;done)|(simp;omega)))));done)));refine (fun (t2:w2.cell? ⟨w1.heap.size+1,2,none⟩=some (.int .i64 0))=>?_) (qM hb2 ?_);rotate_left;(focus (first |(simp;done)|((repeat (first |(refine zaa ?_ rfl;(simp;done))|(refine zad ?_;(simp;done))|(refine zac ?_ ?_;(focus first |(simp;done)|(simp;omega)))|(refine zab ?_ ?_;(focus first |(simp;done)|(simp;omega)))));done)));refine (fun (t3:w2.cell? ⟨w1.heap.size+1,3,none⟩=some (.string ⟨#[]⟩))=>?_) (qM hb2 ?_);rotate_left;(focus (first |(simp;done)|((repeat (first |(refine zaa ?_ rfl;(simp;done))|(refine zad ?_;(simp;done))|(refine zac ?_ ?_;(focus first |(simp;done)|(simp;omega)))|(refine zab ?_ ?_;(focus first |(simp;done)|(simp;omega)))));done)));refine (fun (t4:w2.cell? ⟨w1.heap.size+1,4,none⟩=some (.string ⟨#[122,50]⟩))=>?_) (qM hb2 ?_);rotate_left;(focus (first |(simp;done)|((repeat (first |(refine zaa ?_ rfl;(simp;done))|(refine zad ?_;(simp;done))|(refine zac ?_ ?_;(focus first |(simp;done)|(simp;omega)))|(refine zab ?_ ?_;(focus first |(simp;done)|(simp;omega)))));done)));refine (fun (t5:w2.cell? ⟨w1.heap.size+1,5,none⟩=some (.int .i64 0))=>?_) (qM hb2 ?_);rotate_left;(focus (first |(simp;done)|((repeat (first |(refine zaa ?_ rfl;(simp;done))|(refine zad ?_;(simp;done))|(refine zac ?_ ?_;(focus first |(simp;done)|(simp;omega)))|(refine zab ?_ ?_;(focus first |(simp;done)|(simp;omega)))));done)));obtain ⟨v5,u5,hr5,he5⟩:=zca PN HQ.out.2 hk2 hN HQ.out.1 (y:=zoneL[2]) (by simp [zoneL]) w2 (za0 _) ⟨w1.heap.size+1,0,none⟩ (zfz t0 t1 t2 t3 t4 t5);have HE5:=qL he5;clear he5;simp [go_sem] at hr5));(obtain ⟨v3,u3,hr3,he3⟩:=zca PN HQ.out.2 hk2 hN HQ.out.1 (y:=zoneL[2]) (by simp [zoneL]) ((w2.alloc (.cells #[.string ⟨#[122,48]⟩, .string ⟨#[122,49]⟩, .string ⟨#[122,50]⟩] 9)).alloc (.cells #[.int .i64 20, .int .i64 0, .int .i64 0, .string ⟨#[]⟩, .string ⟨#[122,50]⟩, .int .i64 0] 48)) ((zae w2 (.cells #[.string ⟨#[122,48]⟩, .string ⟨#[122,49]⟩, .string ⟨#[122,50]⟩] 9)).alloc qH (.cells #[.int .i64 20, .int .i64 0, .int .i64 0, .string ⟨#[]⟩, .string ⟨#[122,50]⟩, .int .i64 0] 48)) ⟨w2.heap.size+1,0,none⟩ (zhj (w2.alloc (.cells #[.string ⟨#[122,48]⟩, .string ⟨#[122,49]⟩, .string ⟨#[122,50]⟩] 9)) _ _ _ _ _ _ qH));(obtain ⟨v4,u4,hr4,he4⟩:=zca PN HQ.out.2 hk2 hN HQ.out.1 (y:=zoneL[2]) (by simp [zoneL]) (w2.alloc (.cells #[.int .i64 20, .int .i64 0, .int .i64 0, .string ⟨#[]⟩, .string ⟨#[122,50]⟩, .int .i64 0] 48)) (zae w2 (.cells #[.int .i64 20, .int .i64 0, .int .i64 0, .string ⟨#[]⟩, .string ⟨#[122,50]⟩, .int .i64 0] 48)) ⟨w2.heap.size,0,none⟩ (zhj w2 _ _ _ _ _ _ rfl));have HE3:=qL he3;have HE4:=qL he4;clear he3 he4 hown2 hb2 hk2;simp [go_sem] at hr3;simp [go_sem] at hr4)
   all_goals
    go_wp2_with fail
    first
     |exact bodyPost_ret (v:=v3) (by simp [results,Tryz.results29,go_sem]) rfl HE3.out
     |exact bodyPost_ret (v:=v4) (by simp [results,Tryz.results29,go_sem]) rfl HE4.out
     |exact bodyPost_ret (v:=v5) (by simp [results,Tryz.results29,go_sem]) rfl HE5.out
 by_cases hr3':r=3
 ·go_wp2_with fail
  refine (HI.out 4 (2*at0+1) w1 qF qF (.inl rfl) HB1.out).mono ?_
  rintro e w2 h2
  obtain ⟨A,n,c,p,rfl,hc,hn,hr2,hk,hl,_,hb2⟩:=za1 h2
  have HP2:=qL hr2
  have HK:=qL hk
  have HB2:Hid (Below w.heap.size w w2):=qL (btr HB1.out hb2)
  clear h2 hr2 hk hb2
  go_wp2_with fail
  refine (HI.out 4 (2*at0+2) w2 qF qF (.inr rfl) HB2.out).mono ?_
  rintro e w3 h2
  obtain ⟨A2,n2,c2,p2,rfl,hc2,hn2,hr2,hk,hl2,_,hb2⟩:=za1 h2
  have HP3:=qL (HP2.out.later hb2)
  have HQ3:=qL hr2
  obtain ⟨g1,g2,t,g3,g4⟩:=hk
  have HB3:Hid (Below w.heap.size w w3):=qL (btr HB2.out hb2)
  have HU3:=qL (HU.out w3 HB3.out A2 n2 c2 p2 t hr2 qF g2 g4)
  have HG:=qL g2
  have HG4:=qL g4
  clear h2 hr2 hb2 g2 g4
  go_wp2_with fail
  refine HU3.out.mono ?_
  rintro e w4 ⟨rfl,hb4⟩
  have HP:=qL (HP3.out.later hb4)
  have HQ:=qL (HQ3.out.later hb4)
  have HB4:Hid (Below w.heap.size w w4):=qL (btr HB3.out hb4)
  clear hb4
  by_cases ht0:t.k=0
  ·have ht:(t.k==0)=true:=by simp [ht0]
   rw [ht]
   go_wp2_with fail
   refine (HF.out w4 HB4.out (q / 9) qF qF).mono ?_
   rintro e w5 ⟨v4,m4,p4,rfl,ho4,hk4,hb5⟩
   have HE:Hid (ycn cs 2 (1+3*N) w (.returned v4) w5):=qL ⟨v4,m4,p4,rfl,ho4.mono HB4.out.size,hk4.mono qF,btr HB4.out hb5⟩
   clear ho4 hk4 hb5
   go_wp2_with fail
   exact bodyPost_ret (v:=v4) (by simp [results,Tryz.results29,go_sem]) rfl HE.out
  ·have ht:(t.k==0)=false:=by simp [ht0]
   rw [ht]
   go_wp2_with fail
   have hn60:p.length<=100/\p2.length<=100:=by omega
   refine (yhc 5 _ 2 2 [p,p2] _ (ymd 25 w4 A A2 n c n2 c2 p p2 HP.out HQ.out) qF (fun x hx=>by rcases qY hx with rfl|hx;omega;rw [List.mem_singleton] at hx;subst hx;omega)).mono ?_
   intro e w5 h3
   have hk5:okE cs 5 N p2∨True:= .inr trivial
   have h4:=zbj (HB4.out.alloc HB4.out.size _) ((ok5 (by rcases g3 with g|g;exact g;exact absurd g ht0) HK.out g1 HG.out HG4.out).mono (by omega:1+2*N<=1+3*N)) h3
   obtain ⟨v4,m4,p4,rfl,ho4,hk4,hb4⟩:=h4
   have HE:Hid (ycn cs 2 (1+3*N) w (.returned v4) w5):=qL ⟨v4,m4,p4,rfl,ho4,hk4,hb4⟩
   clear h3 ho4 hk4 hb4
   go_wp2_with fail
   exact bodyPost_ret (v:=v4) (by simp [results,Tryz.results29,go_sem]) rfl HE.out
 have har:arN (4+q / 9 % 5)=2:=by
  have h:q / 9 % 5=0∨q / 9 % 5=1∨q / 9 % 5=2∨q / 9 % 5=3∨q / 9 % 5=4:=by omega
  rcases h with h|h|h|h|h<;>rw [h]<;>decide
 have HAR:=qL har
 clear har
 go_wp2_with fail
 refine (HI.out 2 (2*at0+1) w1 qF qF (.inl rfl) HB1.out).mono ?_
 rintro e w2 h2
 obtain ⟨A,n,c,p,rfl,hc,hn,hr2,hk,hl,_,hb2⟩:=za1 h2
 have HP2:=qL hr2
 have HK:=qL hk
 have HB2:Hid (Below w.heap.size w w2):=qL (btr HB1.out hb2)
 clear h2 hr2 hk hb2
 go_wp2_with fail
 refine (HI.out 2 (2*at0+2) w2 qF qF (.inr rfl) HB2.out).mono ?_
 rintro e w3 h2
 obtain ⟨A2,n2,c2,p2,rfl,hc2,hn2,hr2,hk,hl2,_,hb2⟩:=za1 h2
 have HP:=qL (HP2.out.later hb2)
 have HQ:=qL hr2
 have HK2:=qL hk
 have HB3:Hid (Below w.heap.size w w3):=qL (btr HB2.out hb2)
 clear h2 hr2 hk hb2
 go_wp2_with fail
 refine (yhc (4+q / 9 % 5) _ 2 2 [p,p2] _ (ymd 25 w3 A A2 n c n2 c2 p p2 HP.out HQ.out) qF (fun x hx=>by rcases qY hx with rfl|hx;omega;rw [List.mem_singleton] at hx;subst hx;omega)).mono ?_
 intro e w4 h3
 have h4:=zbj (HB3.out.alloc HB3.out.size _) ((yqo HAR.out (zcz qF qF) (fun a b ha hb=>k4n qF qF ha hb) HK.out HK2.out).mono (by omega:1+2*N<=1+3*N)) h3
 obtain ⟨v4,m4,p4,rfl,ho4,hk4,hb4⟩:=h4
 have HE:Hid (ycn cs 2 (1+3*N) w (.returned v4) w4):=qL ⟨v4,m4,p4,rfl,ho4,hk4,hb4⟩
 clear h3 ho4 hk4 hb4
 go_wp2_with fail
 exact bodyPost_ret (v:=v4) (by simp [results,Tryz.results29,go_sem]) rfl HE.out
theorem zko {cs:List Col}(cA dA:Option Addr)(cN cC dN dC:Nat)(ds:List Int)(kind at0:Int)(w:World)(hds:rInt w dA dN ds)(hdl:dN<=9223372036854775807)(ha0:0<=at0)(ha1:at0<=1000000000000)(h1:1<=kind)(h4:kind<=4)(hok:okCols cs)(hr:rCol w cA cN cs):
 Calls Tryz.prog 10 #[.int .i64 kind, .slice cA cN cC, .slice dA dN dC, .int .i64 at0, .int .i64 0] w (ycn cs kind 1 w):=by
 have HD:=qL hds
 have HF:=qL fun (W:World) (hW:Below w.heap.size w W) (q:Int) (h0:0<=q) (h5:q<=200000)=>yoo kind cA cN cC cs q W (hr.later hW) hok h1 h4 h0 h5
 clear hds hok hr
 go_enter Tryz.func10,Tryz.ntmps10
 go_wp2_with fail
 refine (atE dA dN dC ds at0 w HD.out hdl).mono ?_
 rintro e w1 ⟨q,rfl,hq0,hq1,hb1⟩
 have HB1:=qL hb1
 clear hb1
 have e0:q.tmod 5=q % 5:=Int.tmod_eq_emod_of_nonneg hq0
 have e1:q.tdiv 5=q / 5:=Int.tdiv_eq_ediv_of_nonneg hq0
 go_wp2_with fail
 refine (HF.out w1 HB1.out (q / 5) qF qF).mono ?_
 rintro e w5 ⟨v4,m4,p4,rfl,ho4,hk4,hb5⟩
 have HE:Hid (ycn cs kind 1 w (.returned v4) w5):=qL ⟨v4,m4,p4,rfl,ho4.mono HB1.out.size,hk4,btr HB1.out hb5⟩
 clear ho4 hk4 hb5
 go_wp2_with fail
 exact bodyPost_ret (v:=v4) (by simp [results,Tryz.results10,go_sem]) rfl HE.out
theorem ok4 {cs:List Col}{N:Nat}{p q:List Nod}{t:Knd}{op:Int}(h:op=4∨op=5)(ht:t.k=4)(g1:p.length<=N)(g2: ∀ n∈p,okN cs n)(g4:ycx cs p t)(hq:okE cs 2 N q):okE cs 4 (1+2*N) (ya1 [p,q]++ [opN op]):=by
 obtain ⟨l1,n1,b,hb,b1⟩:=hq
 obtain ⟨u,hu,hk⟩:=k4d (cs:=cs) h ht hb
 have e:ya1 [p,q]++ [opN op]=p++(q++ [opN op]):=by simp [ya1]
 rw [e]
 refine ⟨by simp;omega,fun n hn=>?_,u,hk,Yd5 g4 b1 (by rcases h with h|h<;>(show arN op=2;rw [h];decide)) hu⟩
 rcases List.mem_append.1 hn with h|h
 ·exact g2 n h
 rcases List.mem_append.1 h with h|h
 ·exact n1 n h
 ·rw [List.mem_singleton] at h;subst h;exact zcz qF qF
theorem zkn {cs:List Col}(N:Nat)(cA dA:Option Addr)(cN cC dN dC:Nat)(ds:List Int)(kind at0 depth:Int)(w:World)(hds:rInt w dA dN ds)(hdl:dN<=9223372036854775807)(ha0:0<=at0)(ha1:at0<=100000000000)(hd0:1<=depth)(hd1:depth<=10)(hN1:1<=N)(hN:N<=20)(h1:1<=kind)(h4:kind<=4)
 (hok:okCols cs) (hcs: ∀ c∈cs,c.nm∈knownN) (hE:cs∈csE) (hk2: ∀ c∈cs,1<=c.k/\c.k<=4) (hr:rCol w cA cN cs) (hcc:cN<=cC) (hcm:cC<=maxLen)
 (IH: ∀ (kind a:Int) (W:World),1<=kind->kind<=4->(0<=a/\a<=6*at0+4)->Below w.heap.size w W->Calls Tryz.prog 10 #[.int .i64 kind, .slice cA cN cC, .slice dA dN dC, .int .i64 a, .int .i64 (depth - 1)] W (ycn cs kind N W)):
 Calls Tryz.prog 10 #[.int .i64 kind, .slice cA cN cC, .slice dA dN dC, .int .i64 at0, .int .i64 depth] w (ycn cs kind (1+3*N) w):=by
 have HI:=qL IH
 have HD:=qL hds
 have HU:=qL fun (W:World) (hW:Below w.heap.size w W) (A:Option Addr) (n c:Nat) (p:List Nod) (t:Knd) (h:rNod W A n p) (hn:n<=60) (hk: ∀ x∈p,okN cs x) (hb:ycx cs p t)=>zjx A n c p cA cN cC W h hn hk hb hcs hE hk2 (hr.later hW) hcc hcm
 have HF:=qL fun (W:World) (hW:Below w.heap.size w W) (q:Int) (h0:0<=q) (h5:q<=200000)=>yoo kind cA cN cC cs q W (hr.later hW) hok h1 h4 h0 h5
 have H28:=qL fun (W:World) (hW:Below w.heap.size w W)=>zpc (cs:=cs) N cA dA cN cC dN dC ds (3*at0+1) depth W (hds.later hW) hdl qF qF hd0 hd1 hN (fun k a W2 g1 g2 g3 g4=>IH k a W2 g1 g2 qF (btr hW g4))
 have H29:=qL fun (W:World) (hW:Below w.heap.size w W)=>zpo (cs:=cs) N cA dA cN cC dN dC ds (3*at0+1) depth W (hds.later hW) hdl qF qF hd0 hd1 hN1 hN hok hcs hE hk2 (hr.later hW) hcc hcm (fun k a W2 g1 g2 g3 g4=>IH k a W2 g1 g2 qF (btr hW g4))
 clear IH hds hok hcs hE hk2 hr
 go_enter Tryz.func10,Tryz.ntmps10
 go_wp2_with fail
 refine (atE dA dN dC ds at0 w HD.out hdl).mono ?_
 rintro e w1 ⟨q,rfl,hq0,hq1,hb1⟩
 have HB1:=qL hb1
 clear hb1
 have e0:q.tmod 5=q % 5:=Int.tmod_eq_emod_of_nonneg hq0
 have e1:q.tdiv 5=q / 5:=Int.tdiv_eq_ediv_of_nonneg hq0
 have e2:(q / 5).tmod 2=(q / 5) % 2:=Int.tmod_eq_emod_of_nonneg qF
 obtain ⟨r,hr⟩: ∃ r,r=q % 5:=⟨_,rfl⟩
 have hr1:0<=r/\r<=4:=by omega
 by_cases hr0:r=0
 ·have hm:q % 5=0:=by omega
  have hb0:(q % 5==0)=true:=by rw [hm];rfl
  go_wp2_with fail
  refine (HF.out w1 HB1.out (q / 5) qF qF).mono ?_
  rintro e w5 ⟨v4,m4,p4,rfl,ho4,hk4,hb5⟩
  have HE:Hid (ycn cs kind (1+3*N) w (.returned v4) w5):=qL ⟨v4,m4,p4,rfl,ho4.mono HB1.out.size,hk4.mono qF,btr HB1.out hb5⟩
  clear ho4 hk4 hb5
  go_wp2_with fail
  exact bodyPost_ret (v:=v4) (by simp [results,Tryz.results10,go_sem]) rfl HE.out
 by_cases hr1':r=1
 ·have hm:q % 5=1:=by omega
  have hb0:(q % 5==0)=false:=by rw [hm];rfl
  have hb1:(q % 5==1)=true:=by rw [hm];rfl
  go_wp2_with fail
  refine (HI.out 1 (3*at0+1) w1 qF qF qF HB1.out).mono ?_
  rintro e w2 h2
  obtain ⟨A,n,c,p,rfl,hc,hn,hr2,hk,hl,_,hb2⟩:=za1 h2
  have HP2:=qL hr2
  have HK:=qL hk
  have HB2:Hid (Below w.heap.size w w2):=qL (btr HB1.out hb2)
  clear h2 hr2 hk hb2
  go_wp2_with fail
  refine (HI.out kind (3*at0+2) w2 qF qF qF HB2.out).mono ?_
  rintro e w3 h2
  obtain ⟨A2,n2,c2,p2,rfl,hc2,hn2,hr2,hk,hl2,_,hb2⟩:=za1 h2
  have HP3:=qL (HP2.out.later hb2)
  have HQ3:=qL hr2
  have HK2:=qL hk
  have HB3:Hid (Below w.heap.size w w3):=qL (btr HB2.out hb2)
  clear h2 hr2 hk hb2
  go_wp2_with fail
  refine (HI.out kind (3*at0+3) w3 qF qF qF HB3.out).mono ?_
  rintro e w4 h2
  obtain ⟨A3,n3,c3,p3,rfl,hc3,hn3,hr2,hk,hl3,_,hb2⟩:=za1 h2
  have HP:=qL (HP3.out.later hb2)
  have HQ:=qL (HQ3.out.later hb2)
  have HR:=qL hr2
  have HK3:=qL hk
  have HB4:Hid (Below w.heap.size w w4):=qL (btr HB3.out hb2)
  clear h2 hr2 hk hb2
  go_wp2_with fail
  refine (yhc 17 _ 3 3 [p,p2,p3] _ (exp3 25 w4 A A2 A3 n c n2 c2 n3 c3 p p2 p3 HP.out HQ.out HR.out) qF (fun x hx=>by rcases qY hx with rfl|hx;omega;rcases qY hx with rfl|hx;omega;rw [List.mem_singleton] at hx;subst hx;omega)).mono ?_
  intro e w5 h3
  have h4:=zbj (HB4.out.alloc HB4.out.size _) (okE3 (by decide) (zcz qF qF) (fun a b c ha hb hc=>k17 ha hb hc) HK.out HK2.out HK3.out) h3
  obtain ⟨v4,m4,p4,rfl,ho4,hk4,hb4⟩:=h4
  have HE:Hid (ycn cs kind (1+3*N) w (.returned v4) w5):=qL ⟨v4,m4,p4,rfl,ho4,hk4,hb4⟩
  clear h3 ho4 hk4 hb4
  go_wp2_with fail
  exact bodyPost_ret (v:=v4) (by simp [results,Tryz.results10,go_sem]) rfl HE.out
 by_cases hr2':r=2
 ·have hm:q % 5=2:=by omega
  have hb0:(q % 5==0)=false:=by rw [hm];rfl
  have hb1:(q % 5==1)=false:=by rw [hm];rfl
  have hb2:(q % 5==2)=true:=by rw [hm];rfl
  go_wp2_with fail
  refine (HI.out kind (3*at0+1) w1 qF qF qF HB1.out).mono ?_
  rintro e w2 h2
  obtain ⟨A,n,c,p,rfl,hc,hn,hr2,hk,hl,_,hb2⟩:=za1 h2
  have HP2:=qL hr2
  have HK:=qL hk
  have HB2:Hid (Below w.heap.size w w2):=qL (btr HB1.out hb2)
  clear h2 hr2 hk hb2
  go_wp2_with fail
  refine (HI.out kind (3*at0+2) w2 qF qF qF HB2.out).mono ?_
  rintro e w3 h2
  obtain ⟨A2,n2,c2,p2,rfl,hc2,hn2,hr2,hk,hl2,_,hb2⟩:=za1 h2
  have HP:=qL (HP2.out.later hb2)
  have HQ:=qL hr2
  have HK2:=qL hk
  have HB3:Hid (Below w.heap.size w w3):=qL (btr HB2.out hb2)
  clear h2 hr2 hk hb2
  go_wp2_with fail
  refine (yhc 18 _ 2 2 [p,p2] _ (ymd 25 w3 A A2 n c n2 c2 p p2 HP.out HQ.out) qF (fun x hx=>by rcases qY hx with rfl|hx;omega;rw [List.mem_singleton] at hx;subst hx;omega)).mono ?_
  intro e w4 h3
  have h4:=zbj (HB3.out.alloc HB3.out.size _) ((yqo (by decide) (zcz qF qF) (fun a b ha hb=>k18 ha hb) HK.out HK2.out).mono (by omega:1+2*N<=1+3*N)) h3
  obtain ⟨v4,m4,p4,rfl,ho4,hk4,hb4⟩:=h4
  have HE:Hid (ycn cs kind (1+3*N) w (.returned v4) w4):=qL ⟨v4,m4,p4,rfl,ho4,hk4,hb4⟩
  clear h3 ho4 hk4 hb4
  go_wp2_with fail
  exact bodyPost_ret (v:=v4) (by simp [results,Tryz.results10,go_sem]) rfl HE.out
 have hb0:(q % 5==0)=false:=beq_eq_false_iff_ne.2 qF
 have hb1:(q % 5==1)=false:=beq_eq_false_iff_ne.2 qF
 have hb2:(q % 5==2)=false:=beq_eq_false_iff_ne.2 qF
 by_cases hkk:kind=1
 ·go_wp2_with fail
  refine (H28.out w1 HB1.out).mono ?_
  rintro e w5 ⟨v4,m4,p4,rfl,ho4,hk4,hb5⟩
  have HE:Hid (ycn cs kind (1+3*N) w (.returned v4) w5):=qL ⟨v4,m4,p4,rfl,ho4.mono HB1.out.size,by subst hkk;exact hk4,btr HB1.out hb5⟩
  clear ho4 hk4 hb5
  go_wp2_with fail
  exact bodyPost_ret (v:=v4) (by simp [results,Tryz.results10,go_sem]) rfl HE.out
 by_cases hkk2:kind=2
 ·go_wp2_with fail
  refine (H29.out w1 HB1.out).mono ?_
  rintro e w5 ⟨v4,m4,p4,rfl,ho4,hk4,hb5⟩
  have HE:Hid (ycn cs kind (1+3*N) w (.returned v4) w5):=qL ⟨v4,m4,p4,rfl,ho4.mono HB1.out.size,by subst hkk2;exact hk4,btr HB1.out hb5⟩
  clear ho4 hk4 hb5
  go_wp2_with fail
  exact bodyPost_ret (v:=v4) (by simp [results,Tryz.results10,go_sem]) rfl HE.out
 by_cases hkk3:kind=3
 ·subst hkk3
  go_wp2_with fail
  refine (HI.out 3 (3*at0+1) w1 qF qF qF HB1.out).mono ?_
  rintro e w2 h2
  obtain ⟨A,n,c,p,rfl,hc,hn,hr2,hk,hl,_,hb2⟩:=za1 h2
  have HP2:=qL hr2
  have HK:=qL hk
  have HB2:Hid (Below w.heap.size w w2):=qL (btr HB1.out hb2)
  clear h2 hr2 hk hb2
  go_wp2_with fail
  refine (HI.out 3 (3*at0+2) w2 qF qF qF HB2.out).mono ?_
  rintro e w3 h2
  obtain ⟨A2,n2,c2,p2,rfl,hc2,hn2,hr2,hk,hl2,_,hb2⟩:=za1 h2
  have HP:=qL (HP2.out.later hb2)
  have HQ:=qL hr2
  have HK2:=qL hk
  have HB3:Hid (Below w.heap.size w w3):=qL (btr HB2.out hb2)
  clear h2 hr2 hk hb2
  go_wp2_with fail
  refine (yhc 9 _ 2 2 [p,p2] _ (ymd 25 w3 A A2 n c n2 c2 p p2 HP.out HQ.out) qF (fun x hx=>by rcases qY hx with rfl|hx;omega;rw [List.mem_singleton] at hx;subst hx;omega)).mono ?_
  intro e w4 h3
  have h4:=zbj (HB3.out.alloc HB3.out.size _) ((yqo (by decide) (zcz qF qF) (fun a b ha hb=>k9 ha hb) HK.out HK2.out).mono (by omega:1+2*N<=1+3*N)) h3
  obtain ⟨v4,m4,p4,rfl,ho4,hk4,hb4⟩:=h4
  have HE:Hid (ycn cs 3 (1+3*N) w (.returned v4) w4):=qL ⟨v4,m4,p4,rfl,ho4,hk4,hb4⟩
  clear h3 ho4 hk4 hb4
  go_wp2_with fail
  exact bodyPost_ret (v:=v4) (by simp [results,Tryz.results10,go_sem]) rfl HE.out
 obtain rfl:kind=4:=by omega
 go_wp2_with fail
 refine (HI.out 4 (3*at0+1) w1 qF qF qF HB1.out).mono ?_
 rintro e w2 h2
 obtain ⟨A,n,c,p,rfl,hc,hn,hr2,hk,hl,ho2,hb2⟩:=za1 h2
 have HP2:=qL hr2
 have HO2:=qL ho2
 have HOK:=qL hk
 obtain ⟨g1,g2,t,g3,g4⟩:=hk
 have HB2:Hid (Below w.heap.size w w2):=qL (btr HB1.out hb2)
 have HU3:=qL (HU.out w2 HB2.out A n c p t hr2 qF g2 g4)
 have HG:=qL g2
 have HG4:=qL g4
 clear h2 hr2 hb2 g2 g4 ho2
 go_wp2_with fail
 refine HU3.out.mono ?_
 rintro e w4 ⟨rfl,hb4⟩
 have HP4:=qL (HP2.out.later hb4)
 have HO4:=qL ((HO2.out.later hb4).mono HB1.out.size)
 have HB4:Hid (Below w.heap.size w w4):=qL (btr HB2.out hb4)
 clear hb4
 by_cases ht0:t.k=0
 ·have ht:(t.k==0)=true:=by simp [ht0]
  rw [ht]
  have HE:Hid (ycn cs 4 (1+3*N) w (.returned (.slice A n c)) w4):=qL ⟨_,n,p,rfl,HO4.out,HOK.out.mono qF,HB4.out⟩
  go_wp2_with fail
  exact bodyPost_ret (v:= .slice A n c) (by simp [results,Tryz.results10,go_sem]) rfl HE.out
 ·have ht:(t.k==0)=false:=by simp [ht0]
  rw [ht]
  have ht4:t.k=4:=by rcases g3 with g|g;exact g;exact absurd g ht0
  have HT4:=qL ht4
  clear ht4
  go_wp2_with fail
  refine (HI.out 2 (3*at0+2) w4 qF qF qF HB4.out).mono ?_
  rintro e w5 h2
  obtain ⟨A2,n2,c2,p2,rfl,hc2,hn2,hr2,hk,hl2,_,hb2⟩:=za1 h2
  have HP:=qL (HP4.out.later hb2)
  have HQ:=qL hr2
  have HK2:=qL hk
  have HB5:Hid (Below w.heap.size w w5):=qL (btr HB4.out hb2)
  clear h2 hr2 hk hb2
  go_wp2_with fail
  refine (yhc (4+q / 5 % 2) _ 2 2 [p,p2] _ (ymd 25 w5 A A2 n c n2 c2 p p2 HP.out HQ.out) qF (fun x hx=>by rcases qY hx with rfl|hx;omega;rw [List.mem_singleton] at hx;subst hx;omega)).mono ?_
  intro e w6 h3
  have h4:=zbj (HB5.out.alloc HB5.out.size _) ((ok4 qF HT4.out g1 HG.out HG4.out HK2.out).mono (by omega:1+2*N<=1+3*N)) h3
  obtain ⟨v4,m4,p4,rfl,ho4,hk4,hb4⟩:=h4
  have HE:Hid (ycn cs 4 (1+3*N) w (.returned v4) w6):=qL ⟨v4,m4,p4,rfl,ho4,hk4,hb4⟩
  clear h3 ho4 hk4 hb4
  go_wp2_with fail
  exact bodyPost_ret (v:=v4) (by simp [results,Tryz.results10,go_sem]) rfl HE.out
theorem yzr : ∀ d:Nat,d<=2->1<=szE d/\szE d<=20
 |0,_=>⟨by decide,by decide⟩
 |1,_=>⟨by decide,by decide⟩
 |2,_=>⟨by decide,by decide⟩
 |_+3,h=>by omega
theorem yme {cs:List Col}(cA dA:Option Addr)(cN cC dN dC:Nat)(ds:List Int)(hdl:dN<=9223372036854775807)(hok:okCols cs)(hcs: ∀ c∈cs,c.nm∈knownN)(hE:cs∈csE)(hk2: ∀ c∈cs,1<=c.k/\c.k<=4)(hcc:cN<=cC)(hcm:cC<=maxLen):
 ∀ (d:Nat) (_:d<=3) (kind at0:Int) (w:World) (_:rInt w dA dN ds) (_:rCol w cA cN cs) (_:0<=at0) (_:(at0+2)*(7 ^ d:Nat)<=100000000000) (_:1<=kind) (_:kind<=4),
  Calls Tryz.prog 10 #[.int .i64 kind, .slice cA cN cC, .slice dA dN dC, .int .i64 at0, .int .i64 d] w (ycn cs kind (szE d) w)
 |0,_,kind,at0,w,hds,hr,h0,h1,hk,hk4=>by
  have h1:(at0+2)*1<=100000000000:=h1
  exact zko cA dA cN cC dN dC ds kind at0 w hds hdl h0 qF hk hk4 hok hr
 |d+1,hd,kind,at0,w,hds,hr,h0,h1,hk,hk4=>by
  have e7:((7 ^ (d+1):Nat):Int)=7*(7 ^ d:Nat):=by rw [Nat.pow_succ];omega
  have p1:(1:Int)<=(7 ^ d:Nat):=by have:=Nat.pos_of_ne_zero (show 7 ^ d≠0 by simp);omega
  rw [e7] at h1
  obtain ⟨P,hP⟩: ∃ P:Int,P=(7 ^ d:Nat):=⟨_,rfl⟩
  rw [<-hP] at h1 p1
  have h2:(at0+2)*7*1<=(at0+2)*7*P:=Int.mul_le_mul_of_nonneg_left p1 qF
  have h3:(at0+2)*7*P<=100000000000:=by rw [Int.mul_assoc];exact h1
  obtain ⟨k1,k2⟩:=yzr d qF
  have hc:((d+1:Nat):Int) - 1=d:=by omega
  refine zkn (szE d) cA dA cN cC dN dC ds kind at0 ((d+1:Nat):Int) w hds hdl h0 qF qF qF k1 k2 hk hk4 hok hcs hE hk2 hr hcc hcm fun kind' a W g1 g2 g3 hW=>?_
  rw [hc]
  refine yme cA dA cN cC dN dC ds hdl hok hcs hE hk2 hcc hcm d qF kind' a W (hds.later hW) (hr.later hW) g3.1 ?_ g1 g2
  rw [<-hP]
  exact Int.le_trans (Int.mul_le_mul_of_nonneg_right (show a+2<=(at0+2)*7 by omega) qF) h3
end
end Go.Proofs.YthcalfeoejdcgaaGreatDoor
