import Derived.Test.YthcalfeoejdcgaaGreatDoorK22
namespace Go.Proofs.YthcalfeoejdcgaaGreatDoor
set_option linter.unusedSimpArgs false
set_option linter.unusedVariables false
set_option maxRecDepth 100000
set_option maxHeartbeats 20000000
section
open Go.BigFrame Go.RowKit
theorem zjx {cs:List Col}{t:Knd}(A:Option Addr)(n c:Nat)(p:List Nod)(cA:Option Addr)(cN cC:Nat)(w:World)(h:rNod w A n p)(hn:n<=60)(hk: ∀ x∈p,okN cs x)(hb:ycx cs p t)(hcs: ∀ c∈cs,c.nm∈knownN)(hE:cs∈csE)(hk2: ∀ c∈cs,1<=c.k/\c.k<=4)(hr:rCol w cA cN cs)(hcc:cN<=cC)(hcm:cC<=maxLen):
 Calls Tryz.prog 30 #[.slice A n c, .slice cA cN cC] w fun e w'=>e= .returned (.bool (t.k==0))/\Below w.heap.size w w':=by
 have HT:=qL fun (W:World) (hW:Below w.heap.size w W) (zA:Option Addr) (zN zC:Nat) (hz:rZns W zA zN)=>
  Ycg A n c p cA zA cN cC zN zC W (h.later hW) hn hk hb hcs hE hk2 (hr.later hW) hcc hcm hz
 clear h hk hb hcs hE hk2 hr
 go_enter Tryz.func30,Tryz.ntmps30
 go_wp2_with fail
 refine (Yct _).mono ?_
 rintro e w1 ⟨zA,rfl,hz,hb1⟩
 have HT1:=qL (HT.out w1 hb1 zA 3 3 hz)
 have HB1:=qL hb1
 clear hz hb1
 go_wp2_with fail
 refine HT1.out.mono ?_
 rintro e w2 ⟨rfl,hb2⟩
 have HB2:Hid (Below w.heap.size w w2):=qL (btr HB1.out hb2)
 clear hb2
 go_wp2_with fail
 exact bodyPost_ret (v:= .bool (t.k==0)) (by simp [results,Tryz.results30,go_sem]) rfl ⟨rfl,HB2.out⟩
section
variable {cs:List Col}{op kind k1 k2 k3:Int}{N:Nat}{p q r:List Nod}
theorem Yc5 (hop:arN op=1)(hN:okN cs (opN op))(ht: ∀ a:Knd,(a.k=k1∨a.k=0)-> ∃ t,ybg cs (opN op) [a]=some t/\(t.k=kind∨t.k=0))(hp:okE cs k1 N p):okE cs kind (1+N) (ya1 [p]++ [opN op]):=by
 obtain ⟨l1,n1,a,ha,b1⟩:=hp
 obtain ⟨t,ht,hk⟩:=ht a ha
 have e:ya1 [p]++ [opN op]=p++ [opN op]:=by simp [ya1]
 rw [e]
 refine ⟨by simp;omega,fun n hn=>?_,t,hk,blk1 b1 hop ht⟩
 rcases List.mem_append.1 hn with h|h
 ·exact n1 n h
 ·rw [List.mem_singleton] at h;subst h;exact hN
theorem yqo (hop:arN op=2)(hN:okN cs (opN op))(ht: ∀ a b:Knd,(a.k=k1∨a.k=0)->(b.k=k2∨b.k=0)-> ∃ t,ybg cs (opN op) [a,b]=some t/\(t.k=kind∨t.k=0))(hp:okE cs k1 N p)(hq:okE cs k2 N q):okE cs kind (1+2*N) (ya1 [p,q]++ [opN op]):=by
 obtain ⟨l1,n1,a,ha,b1⟩:=hp
 obtain ⟨l2,n2,b,hb,b2⟩:=hq
 obtain ⟨t,ht,hk⟩:=ht a b ha hb
 have e:ya1 [p,q]++ [opN op]=p++(q++ [opN op]):=by simp [ya1]
 rw [e]
 refine ⟨by simp;omega,fun n hn=>?_,t,hk,Yd5 b1 b2 hop ht⟩
 rcases List.mem_append.1 hn with h|h
 ·exact n1 n h
 rcases List.mem_append.1 h with h|h
 ·exact n2 n h
 ·rw [List.mem_singleton] at h;subst h;exact hN
theorem okE3 (hop:arN op=3)(hN:okN cs (opN op))(ht: ∀ a b c:Knd,(a.k=k1∨a.k=0)->(b.k=k2∨b.k=0)->(c.k=k3∨c.k=0)-> ∃ t,ybg cs (opN op) [a,b,c]=some t/\(t.k=kind∨t.k=0))(hp:okE cs k1 N p)(hq:okE cs k2 N q)(hr:okE cs k3 N r):okE cs kind (1+3*N) (ya1 [p,q,r]++ [opN op]):=by
 obtain ⟨l1,n1,a,ha,b1⟩:=hp
 obtain ⟨l2,n2,b,hb,b2⟩:=hq
 obtain ⟨l3,n3,c,hc,b3⟩:=hr
 obtain ⟨t,ht,hk⟩:=ht a b c ha hb hc
 have e:ya1 [p,q,r]++ [opN op]=p++(q++(r++ [opN op])):=by simp [ya1]
 rw [e]
 refine ⟨by simp;omega,fun n hn=>?_,t,hk,blk3 b1 b2 b3 hop ht⟩
 rcases List.mem_append.1 hn with h|h
 ·exact n1 n h
 rcases List.mem_append.1 h with h|h
 ·exact n2 n h
 rcases List.mem_append.1 h with h|h
 ·exact n3 n h
 ·rw [List.mem_singleton] at h;subst h;exact hN
end
section
variable {cs:List Col}{k:Int}{a b c:Knd}
theorem zcz {op:Int}(h2:2<=op)(h19:op<=19):okN cs (opN op):=
 ⟨rfl,by show 0<=op;omega,by show op<=20;omega,fun h=>by have h:op=0:=h;omega,fun _=>⟨rfl,rfl,rfl⟩,fun h=>by have h:op=1:=h;omega,fun h=>by have h:op=20:=h;omega,fun _ _ _=>rfl⟩
theorem zco (h:a.k=k∨a.k=0):yaf a k=true:=by
 unfold yaf
 rcases h with h|h<;>simp [h]
theorem zf2 (ha:a.k=k∨a.k=0)(hb:b.k=k∨b.k=0):(ydn a b).2=true/\((ydn a b).1=k∨(ydn a b).1=0):=by
 unfold ydn
 by_cases h:a.k=0
 ·rw [if_pos h];exact ⟨rfl,hb⟩
 ·rw [if_neg h]
  have e:a.k=k:=by rcases ha with e|e;exact e;exact absurd e h
  rw [e]
  exact ⟨zco hb, .inl rfl⟩
theorem zcp {n:Nod}{l:List Knd}(h1:n.op≠1)(h:(ylr n l).2=true):ybg cs n l=some (ylr n l).1:=by
 unfold ybg
 rw [if_neg h1,if_pos h]
theorem k2 (ha:a.k=1∨a.k=0): ∃ t,ybg cs (opN 2) [a]=some t/\(t.k=1∨t.k=0):=⟨_,zcp (by decide) (show yaf a 1=true from zco ha), .inl rfl⟩
theorem k3 (ha:a.k=2∨a.k=0): ∃ t,ybg cs (opN 3) [a]=some t/\(t.k=2∨t.k=0):=⟨_,zcp (by decide) (show yaf a 2=true from zco ha), .inl rfl⟩
theorem k9 (ha:a.k=3∨a.k=0)(hb:b.k=3∨b.k=0): ∃ t,ybg cs (opN 9) [a,b]=some t/\(t.k=3∨t.k=0):=⟨_,zcp (by decide) (show (yaf a 3&&yaf b 3)=true by rw [zco ha,zco hb];rfl), .inl rfl⟩
theorem k10 {op:Int}(h1:10<=op)(h2:op<=13)(ha:a.k=k∨a.k=0)(hb:b.k=k∨b.k=0): ∃ t,ybg cs (opN op) [a,b]=some t/\(t.k=1∨t.k=0):=by
 have h:op=10∨op=11∨op=12∨op=13:=by omega
 rcases h with rfl|rfl|rfl|rfl<;>exact ⟨_,zcp (by decide) (show (ydn a b).2=true from (zf2 ha hb).1), .inl rfl⟩
theorem k14 {op:Int}(h:op=14∨op=15)(ha:a.k=1∨a.k=0)(hb:b.k=1∨b.k=0): ∃ t,ybg cs (opN op) [a,b]=some t/\(t.k=1∨t.k=0):=by
 rcases h with rfl|rfl<;>exact ⟨_,zcp (by decide) (show (yaf a 1&&yaf b 1)=true by rw [zco ha,zco hb];rfl), .inl rfl⟩
theorem k16 : ∃ t,ybg cs (opN 16) [a]=some t/\(t.k=1∨t.k=0):=⟨_,zcp (by decide) rfl, .inl rfl⟩
theorem k17 (ha:a.k=1∨a.k=0)(hb:b.k=k∨b.k=0)(hc:c.k=k∨c.k=0): ∃ t,ybg cs (opN 17) [a,b,c]=some t/\(t.k=k∨t.k=0):=⟨_,zcp (by decide) (show ((ydn b c).2&&yaf a 1)=true by rw [(zf2 hb hc).1,zco ha];rfl),(zf2 hb hc).2⟩
theorem k18 (ha:a.k=k∨a.k=0)(hb:b.k=k∨b.k=0): ∃ t,ybg cs (opN 18) [a,b]=some t/\(t.k=k∨t.k=0):=⟨_,zcp (by decide) (show (ydn a b).2=true from (zf2 ha hb).1),(zf2 ha hb).2⟩
theorem k19 (ha:a.k=3∨a.k=0): ∃ t,ybg cs (opN 19) [a]=some t/\(t.k=2∨t.k=0):=⟨_,zcp (by decide) (show yaf a 3=true from zco ha), .inl rfl⟩
theorem k4d {op:Int}(h:op=4∨op=5)(ha:a.k=4)(hb:b.k=2∨b.k=0): ∃ t,ybg cs (opN op) [a,b]=some t/\(t.k=4∨t.k=0):=by
 obtain ⟨ak,an⟩:=a
 have ha:ak=4:=ha
 subst ha
 obtain ⟨bk,bn⟩:=b
 rcases hb with hb|hb<;>(have hb:bk=_:=hb;subst hb;rcases h with rfl|rfl<;>exact ⟨_,rfl, .inl rfl⟩)
theorem k5d (ha:a.k=4∨a.k=0)(hb:b.k=4): ∃ t,ybg cs (opN 5) [a,b]=some t/\(t.k=2∨t.k=0):=by
 obtain ⟨bk,bn⟩:=b
 have hb:bk=4:=hb
 subst hb
 obtain ⟨ak,an⟩:=a
 rcases ha with ha|ha<;>(have ha:ak=_:=ha;subst ha;exact ⟨_,rfl, .inl rfl⟩)
theorem k4n {op:Int}(h1:4<=op)(h2:op<=8)(ha:a.k=2∨a.k=0)(hb:b.k=2∨b.k=0): ∃ t,ybg cs (opN op) [a,b]=some t/\(t.k=2∨t.k=0):=by
 have h:op=4∨op=5∨op=6∨op=7∨op=8:=by omega
 obtain ⟨ak,an⟩:=a
 obtain ⟨bk,bn⟩:=b
 rcases ha with ha|ha<;>rcases hb with hb|hb<;>(have ha:ak=_:=ha;have hb:bk=_:=hb;subst ha;subst hb;rcases h with rfl|rfl|rfl|rfl|rfl<;>exact ⟨_,rfl, .inl rfl⟩)
end
theorem Yc0 (e:TypeId)(w:World)(A:Option Addr)(n c:Nat)(p:List Nod)(h:rNod w A n p):rD kExp (w.alloc (.cells #[.slice A n c] e)) (some ⟨w.heap.size,0,none⟩) 1 [p]:=by
 refine ⟨[(A,n,c)],za7 rfl fun j u hj=>?_,⟨h.later (zae _ _),trivial⟩⟩
 have hj: [Value.slice A n c][j]?=some u:=hj
 match j,hj with
 |0,hj=>cases hj;simp
theorem ymd (e:TypeId)(w:World)(A A2:Option Addr)(n c n2 c2:Nat)(p q:List Nod)(h:rNod w A n p)(h2:rNod w A2 n2 q):rD kExp (w.alloc (.cells #[.slice A n c, .slice A2 n2 c2] e)) (some ⟨w.heap.size,0,none⟩) 2 [p,q]:=by
 refine ⟨[(A,n,c),(A2,n2,c2)],za7 rfl fun j u hj=>?_,⟨h.later (zae _ _),h2.later (zae _ _),trivial⟩⟩
 have hj: [Value.slice A n c,Value.slice A2 n2 c2][j]?=some u:=hj
 match j,hj with
 |0,hj=>cases hj;simp
 |1,hj=>cases hj;simp
theorem exp3 (e:TypeId)(w:World)(A A2 A3:Option Addr)(n c n2 c2 n3 c3:Nat)(p q r:List Nod)(h:rNod w A n p)(h2:rNod w A2 n2 q)(h3:rNod w A3 n3 r):rD kExp (w.alloc (.cells #[.slice A n c, .slice A2 n2 c2, .slice A3 n3 c3] e)) (some ⟨w.heap.size,0,none⟩) 3 [p,q,r]:=by
 refine ⟨[(A,n,c),(A2,n2,c2),(A3,n3,c3)],za7 rfl fun j u hj=>?_,⟨h.later (zae _ _),h2.later (zae _ _),h3.later (zae _ _),trivial⟩⟩
 have hj: [Value.slice A n c,Value.slice A2 n2 c2,Value.slice A3 n3 c3][j]?=some u:=hj
 match j,hj with
 |0,hj=>cases hj;simp
 |1,hj=>cases hj;simp
 |2,hj=>cases hj;simp
def szE :Nat->Nat
 |0=>1
 |d+1=>1+3*szE d
theorem zbj {cs:List Col}{kind:Int}{M:Nat}{w W w':World}{e:Ending}{L:List Nod}(hb:Below w.heap.size w W)(ok:okE cs kind M L)(h: ∃ v m,e= .returned v/\ownD ye3 w' W.heap.size v m L/\Below W.heap.size W w'):ycn cs kind M w e w':=by
 obtain ⟨v,m,rfl,ho,hb2⟩:=h
 exact ⟨v,m,L,rfl,ho.mono hb.size,ok,btr hb hb2⟩
theorem za1 {cs:List Col}{kind:Int}{M:Nat}{w w':World}{e:Ending}(h:ycn cs kind M w e w'): ∃ A n c p,e= .returned (.slice A n c)/\n<=c/\n<=M/\rNod w' A n p/\okE cs kind M p/\p.length=n/\ownD ye3 w' w.heap.size (.slice A n c) n p/\Below w.heap.size w w':=by
 obtain ⟨v,n,p,rfl,ho,hk,hb⟩:=h
 obtain ⟨A,c,rfl,hc,hr,_⟩:=ho.rd
 have hl:=ho.len
 exact ⟨A,n,c,p,rfl,hc,by rw [<-hl];exact hk.1,ymu.1 hr,hk,hl,ho,hb⟩
theorem zpc {cs:List Col}(N:Nat)(cA dA:Option Addr)(cN cC dN dC:Nat)(ds:List Int)(at0 depth:Int)(w:World)(hds:rInt w dA dN ds)(hdl:dN<=9223372036854775807)(ha0:0<=at0)(ha1:at0<=1000000000000)(hd0:1<=depth)(hd1:depth<=10)(hN:N<=20)
 (IH: ∀ (kind a:Int) (W:World),1<=kind->kind<=4->(a=2*at0+1∨a=2*at0+2)->Below w.heap.size w W->Calls Tryz.prog 10 #[.int .i64 kind, .slice cA cN cC, .slice dA dN dC, .int .i64 a, .int .i64 (depth - 1)] W (ycn cs kind N W)):
 Calls Tryz.prog 28 #[.slice cA cN cC, .slice dA dN dC, .int .i64 at0, .int .i64 depth] w (ycn cs 1 (1+3*N) w):=by
 have HI:=qL IH
 have HD:=qL hds
 clear IH hds
 go_enter Tryz.func28,Tryz.ntmps28
 go_wp2_with fail
 refine (atE dA dN dC ds at0 w HD.out hdl).mono ?_
 rintro e w1 ⟨q,rfl,hq0,hq1,hb1⟩
 have HB1:=qL hb1
 clear hb1
 have e0:q.tmod 9=q % 9:=Int.tmod_eq_emod_of_nonneg hq0
 have e1:q.tdiv 16=q / 16:=Int.tdiv_eq_ediv_of_nonneg hq0
 have e2:(q / 16).tmod 4=(q / 16) % 4:=Int.tmod_eq_emod_of_nonneg qF
 obtain ⟨r,hr⟩: ∃ r,r=q % 9:=⟨_,rfl⟩
 obtain ⟨z,hz⟩: ∃ z,z=1+(q / 16) % 4:=⟨_,rfl⟩
 have hz1:1<=z/\z<=4:=by omega
 have hr1:0<=r/\r<=8:=by omega
 by_cases hr0:r=0
 ·go_wp2_with fail
  refine (HI.out 1 (2*at0+1) w1 qF qF (.inl rfl) HB1.out).mono ?_
  rintro e w2 h2
  obtain ⟨A,n,c,p,rfl,hc,hn,hr2,hk,hl,_,hb2⟩:=za1 h2
  have HP:=qL hr2
  have HK:=qL hk
  have HB2:Hid (Below w.heap.size w w2):=qL (btr HB1.out hb2)
  clear h2 hr2 hk hb2
  go_wp2_with fail
  refine (yhc 2 _ 1 1 [p] _ (Yc0 25 w2 A n c p HP.out) qF (fun x hx=>by rw [List.mem_singleton] at hx;subst hx;omega)).mono ?_
  intro e w3 h3
  have h4:=zbj (HB2.out.alloc HB2.out.size _) ((Yc5 (by decide) (zcz qF qF) (fun a ha=>k2 ha) HK.out).mono (by omega:1+N<=1+3*N)) h3
  obtain ⟨v4,m4,p4,rfl,ho4,hk4,hb4⟩:=h4
  have HE:Hid (ycn cs 1 (1+3*N) w (.returned v4) w3):=qL ⟨v4,m4,p4,rfl,ho4,hk4,hb4⟩
  clear h3 ho4 hk4 hb4
  go_wp2_with fail
  exact bodyPost_ret (v:=v4) (by simp [results,Tryz.results28,go_sem]) rfl HE.out
 by_cases hr1':r=1
 ·go_wp2_with fail
  refine (HI.out 1 (2*at0+1) w1 qF qF (.inl rfl) HB1.out).mono ?_
  rintro e w2 h2
  obtain ⟨A,n,c,p,rfl,hc,hn,hr2,hk,hl,_,hb2⟩:=za1 h2
  have HP2:=qL hr2
  have HK:=qL hk
  have HB2:Hid (Below w.heap.size w w2):=qL (btr HB1.out hb2)
  clear h2 hr2 hk hb2
  go_wp2_with fail
  refine (HI.out 1 (2*at0+2) w2 qF qF (.inr rfl) HB2.out).mono ?_
  rintro e w3 h2
  obtain ⟨A2,n2,c2,p2,rfl,hc2,hn2,hr2,hk,hl2,_,hb2⟩:=za1 h2
  have HP:=qL (HP2.out.later hb2)
  have HQ:=qL hr2
  have HK2:=qL hk
  have HB3:Hid (Below w.heap.size w w3):=qL (btr HB2.out hb2)
  clear h2 hr2 hk hb2
  go_wp2_with fail
  refine (yhc 14 _ 2 2 [p,p2] _ (ymd 25 w3 A A2 n c n2 c2 p p2 HP.out HQ.out) qF (fun x hx=>by rcases qY hx with rfl|hx;omega;rw [List.mem_singleton] at hx;subst hx;omega)).mono ?_
  intro e w4 h3
  have h4:=zbj (HB3.out.alloc HB3.out.size _) ((yqo (by decide) (zcz qF qF) (fun a b ha hb=>k14 (.inl rfl) ha hb) HK.out HK2.out).mono (by omega:1+2*N<=1+3*N)) h3
  obtain ⟨v4,m4,p4,rfl,ho4,hk4,hb4⟩:=h4
  have HE:Hid (ycn cs 1 (1+3*N) w (.returned v4) w4):=qL ⟨v4,m4,p4,rfl,ho4,hk4,hb4⟩
  clear h3 ho4 hk4 hb4
  go_wp2_with fail
  exact bodyPost_ret (v:=v4) (by simp [results,Tryz.results28,go_sem]) rfl HE.out
 by_cases hr2':r=2
 ·go_wp2_with fail
  refine (HI.out 1 (2*at0+1) w1 qF qF (.inl rfl) HB1.out).mono ?_
  rintro e w2 h2
  obtain ⟨A,n,c,p,rfl,hc,hn,hr2,hk,hl,_,hb2⟩:=za1 h2
  have HP2:=qL hr2
  have HK:=qL hk
  have HB2:Hid (Below w.heap.size w w2):=qL (btr HB1.out hb2)
  clear h2 hr2 hk hb2
  go_wp2_with fail
  refine (HI.out 1 (2*at0+2) w2 qF qF (.inr rfl) HB2.out).mono ?_
  rintro e w3 h2
  obtain ⟨A2,n2,c2,p2,rfl,hc2,hn2,hr2,hk,hl2,_,hb2⟩:=za1 h2
  have HP:=qL (HP2.out.later hb2)
  have HQ:=qL hr2
  have HK2:=qL hk
  have HB3:Hid (Below w.heap.size w w3):=qL (btr HB2.out hb2)
  clear h2 hr2 hk hb2
  go_wp2_with fail
  refine (yhc 15 _ 2 2 [p,p2] _ (ymd 25 w3 A A2 n c n2 c2 p p2 HP.out HQ.out) qF (fun x hx=>by rcases qY hx with rfl|hx;omega;rw [List.mem_singleton] at hx;subst hx;omega)).mono ?_
  intro e w4 h3
  have h4:=zbj (HB3.out.alloc HB3.out.size _) ((yqo (by decide) (zcz qF qF) (fun a b ha hb=>k14 (.inr rfl) ha hb) HK.out HK2.out).mono (by omega:1+2*N<=1+3*N)) h3
  obtain ⟨v4,m4,p4,rfl,ho4,hk4,hb4⟩:=h4
  have HE:Hid (ycn cs 1 (1+3*N) w (.returned v4) w4):=qL ⟨v4,m4,p4,rfl,ho4,hk4,hb4⟩
  clear h3 ho4 hk4 hb4
  go_wp2_with fail
  exact bodyPost_ret (v:=v4) (by simp [results,Tryz.results28,go_sem]) rfl HE.out
 by_cases hr3':r=3
 ·go_wp2_with fail
  refine (HI.out (1+q / 16 % 4) (2*at0+1) w1 qF qF (.inl rfl) HB1.out).mono ?_
  rintro e w2 h2
  obtain ⟨A,n,c,p,rfl,hc,hn,hr2,hk,hl,_,hb2⟩:=za1 h2
  have HP:=qL hr2
  have HK:=qL hk
  have HB2:Hid (Below w.heap.size w w2):=qL (btr HB1.out hb2)
  clear h2 hr2 hk hb2
  go_wp2_with fail
  refine (yhc 16 _ 1 1 [p] _ (Yc0 25 w2 A n c p HP.out) qF (fun x hx=>by rw [List.mem_singleton] at hx;subst hx;omega)).mono ?_
  intro e w3 h3
  have h4:=zbj (HB2.out.alloc HB2.out.size _) ((Yc5 (by decide) (zcz qF qF) (fun a ha=>k16) HK.out).mono (by omega:1+N<=1+3*N)) h3
  obtain ⟨v4,m4,p4,rfl,ho4,hk4,hb4⟩:=h4
  have HE:Hid (ycn cs 1 (1+3*N) w (.returned v4) w3):=qL ⟨v4,m4,p4,rfl,ho4,hk4,hb4⟩
  clear h3 ho4 hk4 hb4
  go_wp2_with fail
  exact bodyPost_ret (v:=v4) (by simp [results,Tryz.results28,go_sem]) rfl HE.out
 have e3:q.tmod 4=q % 4:=Int.tmod_eq_emod_of_nonneg hq0
 have har:arN (10+q % 4)=2:=by
  have h:q % 4=0∨q % 4=1∨q % 4=2∨q % 4=3:=by omega
  rcases h with h|h|h|h<;>rw [h]<;>decide
 have HAR:=qL har
 clear har
 go_wp2_with fail
 refine (HI.out (1+q / 16 % 4) (2*at0+1) w1 qF qF (.inl rfl) HB1.out).mono ?_
 rintro e w2 h2
 obtain ⟨A,n,c,p,rfl,hc,hn,hr2,hk,hl,_,hb2⟩:=za1 h2
 have HP2:=qL hr2
 have HK:=qL hk
 have HB2:Hid (Below w.heap.size w w2):=qL (btr HB1.out hb2)
 clear h2 hr2 hk hb2
 go_wp2_with fail
 refine (HI.out (1+q / 16 % 4) (2*at0+2) w2 qF qF (.inr rfl) HB2.out).mono ?_
 rintro e w3 h2
 obtain ⟨A2,n2,c2,p2,rfl,hc2,hn2,hr2,hk,hl2,_,hb2⟩:=za1 h2
 have HP:=qL (HP2.out.later hb2)
 have HQ:=qL hr2
 have HK2:=qL hk
 have HB3:Hid (Below w.heap.size w w3):=qL (btr HB2.out hb2)
 clear h2 hr2 hk hb2
 go_wp2_with fail
 refine (yhc (10+q % 4) _ 2 2 [p,p2] _ (ymd 25 w3 A A2 n c n2 c2 p p2 HP.out HQ.out) qF (fun x hx=>by rcases qY hx with rfl|hx;omega;rw [List.mem_singleton] at hx;subst hx;omega)).mono ?_
 intro e w4 h3
 have h4:=zbj (HB3.out.alloc HB3.out.size _) ((yqo HAR.out (zcz qF qF) (fun a b ha hb=>k10 qF qF ha hb) HK.out HK2.out).mono (by omega:1+2*N<=1+3*N)) h3
 obtain ⟨v4,m4,p4,rfl,ho4,hk4,hb4⟩:=h4
 have HE:Hid (ycn cs 1 (1+3*N) w (.returned v4) w4):=qL ⟨v4,m4,p4,rfl,ho4,hk4,hb4⟩
 clear h3 ho4 hk4 hb4
 go_wp2_with fail
 exact bodyPost_ret (v:=v4) (by simp [results,Tryz.results28,go_sem]) rfl HE.out
end
end Go.Proofs.YthcalfeoejdcgaaGreatDoor
