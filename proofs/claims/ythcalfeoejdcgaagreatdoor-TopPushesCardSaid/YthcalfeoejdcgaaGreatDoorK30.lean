import Derived.Test.YthcalfeoejdcgaaGreatDoorK14
import Derived.KernelRfl
import Derived.Test.YthcalfeoejdcgaaGreatDoorK29
import Derived.Deep.RegionLaw
namespace Go.Proofs.YthcalfeoejdcgaaGreatDoor
set_option linter.unusedSimpArgs false
set_option linter.unusedVariables false
set_option maxRecDepth 100000
set_option maxHeartbeats 20000000
section
open Go.BigFrame Go.RowKit
section
variable {tb:Nat->Tab}{num:Nat->Int}{D:Nat->Prop}{ρ:Nat->Pl}{s:ASt}{w w':World}
theorem yny {a b:Bool}(h:ynx a b=true):a=b:=by cases a<;>cases b<;>first |rfl|cases h
theorem zor {names others items co co':Value}{left:Bool}{d du d2:Nat}: ∀ {G:List JoiA} (_:yr4 s names others items co co' left d du G=some d2),∃ g∈G,g.left=left/\g.d=d/\g.du=du/\g.d2=d2/\d<32/\du<32/\d2<32/\yak 1 s names (flat ycd g.names)=true/\yak 1 s others (flat ycd g.others)=true/\yak 5 s items (flat yc3 g.items)=true/\yak 3 s co (flat yam g.cs)=true/\yak 3 s co' (flat yam g.cs')=true
 | [],h=>by cases h
 |g::l,h=>by
  unfold yr4 at h
  cases hz:(ynx g.left left&&(Nat.beq g.d d&&(Nat.beq g.du du&&(Nat.ble d 31&&(Nat.ble du 31&&(Nat.ble g.d2 31&&(yak 1 s names (flat ycd g.names)&&(yak 1 s others (flat ycd g.others)&&(yak 5 s items (flat yc3 g.items)&&(yak 3 s co (flat yam g.cs)&&yak 3 s co' (flat yam g.cs')))))))))))
  ·rw [hz] at h
   obtain ⟨g',hg,h⟩:=zor (G:=l) h
   exact ⟨g',qW _ hg,h⟩
  ·rw [hz] at h
   have h:some g.d2=some d2:=h
   cases h
   simp only [Bool.and_eq_true] at hz
   obtain ⟨k1,k2,k3,k4,k5,k6,k7,k8,k9,k10,k11⟩:=hz
   have k4:=qS k4
   have k5:=qS k5
   have k6:=qS k6
   exact ⟨g,List.mem_cons_self ..,yny k1,qU k2,qU k3,rfl,by omega,by omega,by omega,k7,k8,k9,k10,k11⟩
end
def yqt (p:List Nod)(v:Value)(sn:Nat->Option Obj):Prop:= ∃ A n c,v= .slice A n c/\n<=c/\ ∀ W:World,(∀ k ob,sn k=some ob->W.heap[k]?=some ob)->rNod W A n p
def yq1 (v:Value)(sn:Nat->Option Obj):Prop:= ∃ A n c,v= .slice A n c/\n<=c/\ ∀ W:World,(∀ k ob,sn k=some ob->W.heap[k]?=some ob)->rZns W A n
theorem yj6 {w w':World}{A:Option Addr}{n c:Nat}{p:List Nod}(h:rNod w' A n p)(hB: ∀ a,A=some a->w.heap.size<=a.block)(hc:n<=c):yqt p (.slice A n c) (ya2 w w'):=
 ⟨A,n,c,rfl,hc,fun W hW=>Fl.from h (fun _=>hB) fun b hb hl=>by
  have:ya2 w w' b=some w'.heap[b]:=by
   unfold ya2
   rw [if_pos qF,Array.getElem?_eq_getElem hl]
  rw [hW b _ this,Array.getElem?_eq_getElem hl]⟩
def ETb (tb:Nat->Tab)(num:Nat->Int)(nod:Nat->List Nod):Ev:=fun d v sn=>(d<32/\yqz (tb d) v sn)∨(600<=d/\v= .int .i64 (num d))∨((500<=d/\d<510)/\yqt (nod d) v sn)∨(d=510/\yq1 v sn)
section
variable {tb:Nat->Tab}{num:Nat->Int}{nod:Nat->List Nod}{D:Nat->Prop}{ρ:Nat->Pl}{s:ASt}{w w':World}
theorem zp3 {k:Nat}{v:Value}(hv:Rv (ETb tb num nod) D ρ (.chan (some k)) v)(h:Sim (ETb tb num nod) D ρ s w)(h1:500<=k % 1024)(h2:k % 1024<510): ∃ A n c,v= .slice A n c/\n<=c/\rNod w A n (nod (k % 1024)):=by
 obtain ⟨sn,he,hs⟩:=zig hv h
 rcases he with ⟨h6,_⟩|⟨h6,_⟩|⟨_,A,n,c,e,hc,ht⟩|⟨h6,_⟩
 ·omega
 ·omega
 ·exact ⟨A,n,c,e,hc,ht w hs⟩
 ·omega
theorem zp4 {k:Nat}{v:Value}(hv:Rv (ETb tb num nod) D ρ (.chan (some k)) v)(h:Sim (ETb tb num nod) D ρ s w)(h1:zon k=true): ∃ A n c,v= .slice A n c/\n<=c/\rZns w A n:=by
 have h1:=qU h1
 obtain ⟨sn,he,hs⟩:=zig hv h
 rcases he with ⟨h6,_⟩|⟨h6,_⟩|⟨h6,_⟩|⟨_,A,n,c,e,hc,ht⟩
 ·omega
 ·omega
 ·omega
 ·exact ⟨A,n,c,e,hc,ht w hs⟩
theorem rv_num {k:Nat}{v:Value}(hv:Rv (ETb tb num nod) D ρ (.chan (some k)) v)(h:Sim (ETb tb num nod) D ρ s w)(h1:600<=k % 1024):v= .int .i64 (num (k % 1024)):=by
 obtain ⟨sn,he,hs⟩:=zig hv h
 rcases he with ⟨h6,_⟩|⟨_,e⟩|⟨h6,_⟩|⟨h6,_⟩
 ·omega
 ·exact e
 ·omega
 ·omega
theorem zcq {k:Nat}{v:Value}(hv:Rv (ETb tb num nod) D ρ (.chan (some k)) v)(h:Sim (ETb tb num nod) D ρ s w)(hk:tDe k=true): ∃ A n c,v= .slice A n c/\n<=c/\rTab w A n (tb (k % 1024)):=by
 have hk:=qS hk
 obtain ⟨sn,he,hs⟩:=zig hv h
 rcases he with ⟨_,A,n,c,e,hc,ht⟩|⟨h6,_⟩|⟨h6,_⟩|⟨h6,_⟩
 ·exact ⟨A,n,c,e,hc,ht w hs⟩
 all_goals omega
theorem zqa (hok: ∀ d,d<32->(tb d).length<=4096/\ ∀ x∈tb d,x.1.length<=12){args:List Value}{v:Value}{s':ASt}(hx:yk6 args s=some (v,s')){args':List Value}(h:Sim (ETb tb num nod) D ρ s w)(hr:Rvs (ETb tb num nod) D ρ args args'):
 Calls Tryz.prog 129 ⟨args'⟩ w fun e w'=> ∃ v' ρ' D',e= .returned v'/\Rv (ETb tb num nod) D' ρ' v v'/\Sim (ETb tb num nod) D' ρ' s' w'/\Ex D s ρ w D' s' ρ' w':=by
 unfold yk6 at hx
 split at hx
 ·rename_i k
  obtain ⟨hk,e⟩:=zax hx
  cases e
  obtain ⟨b,m,rfl,h1,h2⟩:=zag hr
  obtain rfl:=zay h2
  obtain ⟨A,n,c,rfl,hc,ht⟩:=zcq h1 h hk
  have hk2:=qS hk
  obtain ⟨o1,o2⟩:=hok (k % 1024) qF
  refine (zog A n c _ w ht (by have:=ht.len;omega) o2).mono ?_
  rintro e w' ⟨A',n',c',rfl,hr',hc',hb⟩
  obtain ⟨r1,r2,r3⟩:=zd3 h hb (d:=k % 1024) qF (v:= .slice A' n' c') rfl (.inl ⟨by omega,zbw hr' (qV _) hc'⟩)
  exact ⟨_,_,_,rfl,r1,r2,r3⟩
 ·cases hx
theorem yld {S:Nat->Nat->Bool}(hS: ∀ a b,S a b=true->tb a=tb b)(hok: ∀ d,d<32->(tb d).length<=4096/\ ∀ x∈tb d,x.1.length<=12){args:List Value}{v:Value}{s':ASt}(hx:Ydb S args s=some (v,s')){args':List Value}(h:Sim (ETb tb num nod) D ρ s w)(hr:Rvs (ETb tb num nod) D ρ args args'):
 Calls Tryz.prog 17 ⟨args'⟩ w fun e w'=> ∃ v' ρ' D',e= .returned v'/\Rv (ETb tb num nod) D' ρ' v v'/\Sim (ETb tb num nod) D' ρ' s' w'/\Ex D s ρ w D' s' ρ' w':=by
 unfold Ydb at hx
 split at hx
 ·rename_i a b
  obtain ⟨hk,e⟩:=zax hx
  cases e
  simp only [Bool.and_eq_true] at hk
  obtain ⟨⟨ka,kb⟩,kS⟩:=hk
  obtain ⟨x,m,rfl,h1,h2⟩:=zag hr
  obtain ⟨y,m,rfl,h3,h4⟩:=zag h2
  obtain rfl:=zay h4
  obtain ⟨A,n,c,rfl,hc,ht⟩:=zcq h1 h ka
  obtain ⟨B,m,d,rfl,hd,hu⟩:=zcq h3 h kb
  rw [<-hS _ _ kS] at hu
  have ha:=qS ka
  obtain ⟨o1,o2⟩:=hok (a % 1024) qF
  refine (yzl A n c B m d _ w ht hu qF (fun x hx=>by have:=o2 x hx;omega)).mono ?_
  rintro e w' ⟨rfl,hb⟩
  obtain ⟨r1,r2⟩:=zbv h hb
  exact ⟨_,_,_,rfl, .flat _ rfl,r1,r2⟩
 ·cases hx
theorem zqc {G:List JoiA}(hG: ∀ g∈G,g.cs.length<=12/\g.cs'.length<=12/\okJo g.left g.cs g.cs' g.names g.others g.items (tb g.d) (tb g.du)/\tb g.d2=ygu g.left (g.names.map (yao g.cs)) (g.others.map (yao g.cs')) (g.items.map fun x=>yao g.cs' x.co) (tb g.d) (tb g.du)){args:List Value}{v:Value}{s':ASt}(hx:yk9 G args s=some (v,s')){args':List Value}(h:Sim (ETb tb num nod) D ρ s w)(hr:Rvs (ETb tb num nod) D ρ args args'):
 Calls Tryz.prog 134 ⟨args'⟩ w fun e w'=> ∃ v' ρ' D',e= .returned v'/\Rv (ETb tb num nod) D' ρ' v v'/\Sim (ETb tb num nod) D' ρ' s' w'/\Ex D s ρ w D' s' ρ' w':=by
 unfold yk9 at hx
 split at hx
 ·rename_i op so names others items nm co k nm' co' k' left
  split at hx
  ·rename_i d2 hf
   cases hx
   obtain ⟨g,hg,e0,e1,e2,rfl,l1,l2,l3,f1,f2,f3,f4,f5⟩:=zor hf
   obtain ⟨x1,m,rfl,h1,hr⟩:=zag hr
   obtain ⟨x2,m,rfl,h2,hr⟩:=zag hr
   obtain ⟨x3,m,rfl,h3,hr⟩:=zag hr
   obtain ⟨x4,m,rfl,h4,hr⟩:=zag hr
   obtain rfl:=zay hr
   obtain rfl:=zat h4 rfl
   obtain ⟨l,rfl,h5⟩:=zdl h1
   obtain ⟨a1,m,rfl,g1,h5⟩:=zag h5
   obtain ⟨a2,m,rfl,g2,h5⟩:=zag h5
   obtain ⟨a3,m,rfl,g3,h5⟩:=zag h5
   obtain ⟨a4,m,rfl,g4,h5⟩:=zag h5
   obtain ⟨a5,m,rfl,g5,h5⟩:=zag h5
   obtain ⟨a6,m,rfl,g6,h5⟩:=zag h5
   obtain rfl:=zay h5
   obtain rfl:=zat g1 rfl
   obtain rfl:=zat g2 rfl
   obtain rfl:=zat g6 rfl
   obtain ⟨l,rfl,h5⟩:=zdl h2
   obtain ⟨b1,m,rfl,i1,h5⟩:=zag h5
   obtain ⟨b2,m,rfl,i2,h5⟩:=zag h5
   obtain ⟨b3,m,rfl,i3,h5⟩:=zag h5
   obtain ⟨b4,m,rfl,i4,h5⟩:=zag h5
   obtain rfl:=zay h5
   obtain rfl:=zat i1 rfl
   obtain rfl:=zat i3 rfl
   obtain ⟨l,rfl,h5⟩:=zdl h3
   obtain ⟨c1,m,rfl,j1,h5⟩:=zag h5
   obtain ⟨c2,m,rfl,j2,h5⟩:=zag h5
   obtain ⟨c3,m,rfl,j3,h5⟩:=zag h5
   obtain ⟨c4,m,rfl,j4,h5⟩:=zag h5
   obtain rfl:=zay h5
   obtain rfl:=zat j1 rfl
   obtain rfl:=zat j3 rfl
   obtain ⟨nA,nN,nC,rfl,hn,hnc⟩:=zbn f1 h g3
   obtain ⟨oA,oN,oC,rfl,ho,hoc⟩:=zbn f2 h g4
   obtain ⟨iA,iN,iC,rfl,hi,hic⟩:=zbn f3 h g5
   obtain ⟨cA,cN,cC,rfl,hc,hcc⟩:=zbn f4 h i2
   obtain ⟨cA',cN',cC',rfl,hc',hcc'⟩:=zbn f5 h j2
   obtain ⟨A,n,c,rfl,_,ht⟩:=zcq i4 h (by unfold tDe;exact Nat.ble_eq_true_of_le qF)
   obtain ⟨A',n',c',rfl,_,hu⟩:=zcq j4 h (by unfold tDe;exact Nat.ble_eq_true_of_le qF)
   obtain ⟨o1,o2,o3,o4⟩:=hG g hg
   rw [<-e1] at ht
   rw [<-e2] at hu
   rw [<-e0]
   have q1:rCol w cA cN g.cs:=hc
   have q2:rCol w cA' cN' g.cs':=hc'
   refine (Yhg op so nA oA iA none nN nC oN oC iN iC 0 0 nm cA none A cN cC 0 0 n c nm' cA' none A' cN' cC' 0 0 n' c' g.left g.names g.others g.items g.cs g.cs' (tb g.d) (tb g.du) w hn ho hi hc hc' ht hu hnc hoc (by rw [<-q1.len];exact o1) (by rw [<-q2.len];exact o2) o3).mono ?_
   rw [<-o4]
   rintro e w' ⟨B,m,b,rfl,hr',hb',hb⟩
   obtain ⟨r1,r2,r3⟩:=zd3 h hb (d:=g.d2) qF (v:= .slice B m b) rfl (.inl ⟨by omega,zbw hr' (qV _) hb'⟩)
   exact ⟨_,_,_,rfl, .tuple _ _ (.cons _ _ _ _ r1 (.cons _ _ _ _ (.flat _ rfl) .nil)),r2,r3⟩
  ·cases hx
 ·cases hx
theorem zqd {L:List (Nat × List Col)}(hok: ∀ p∈L,okCols p.2/\ybi (tb p.1)/\ ∀ x∈tb p.1,okRow p.2 x.1){args:List Value}{v:Value}{s':ASt}(hx:ylj L args s=some (v,s')){args':List Value}(h:Sim (ETb tb num nod) D ρ s w)(hr:Rvs (ETb tb num nod) D ρ args args'):
 Calls Tryz.prog 62 ⟨args'⟩ w fun e w'=> ∃ v' ρ' D',e= .returned v'/\Rv (ETb tb num nod) D' ρ' v v'/\Sim (ETb tb num nod) D' ρ' s' w'/\Ex D s ρ w D' s' ρ' w':=by
 unfold ylj at hx
 split at hx
 ·rename_i nm co k
  obtain ⟨hk,e⟩:=zax hx
  cases e
  rw [Bool.and_eq_true] at hk
  obtain ⟨hk,hf⟩:=hk
  obtain ⟨p,hp,hf⟩:=List.any_eq_true.1 hf
  rw [Bool.and_eq_true] at hf
  obtain ⟨he,hf⟩:=hf
  have he:=qU he
  obtain ⟨x,m,rfl,h1,h2⟩:=zag hr
  obtain rfl:=zay h2
  obtain ⟨l,rfl,h3⟩:=zdl h1
  obtain ⟨a1,m,rfl,g1,h4⟩:=zag h3
  obtain ⟨a2,m,rfl,g2,h5⟩:=zag h4
  obtain ⟨a3,m,rfl,g3,h6⟩:=zag h5
  obtain ⟨a4,m,rfl,g4,h7⟩:=zag h6
  obtain rfl:=zay h7
  obtain rfl:=zat g1 rfl
  obtain rfl:=zat g3 rfl
  obtain ⟨cA,cN,cC,rfl,hco,hcc⟩:=zbn hf h g2
  have hk2:=qS hk
  obtain ⟨A,n,c,rfl,hc,ht⟩:=zcq g4 h (by unfold tDe;exact Nat.ble_eq_true_of_le qF)
  obtain ⟨o1,o2,o3⟩:=hok p hp
  rw [<-he] at ht
  refine (Yel ⟨nm,cA,cN,cC,none,0,0,A,n,c⟩ _ _ w hco ht o1 o2 o3).mono ?_
  rintro e w' ⟨rfl,hb⟩
  obtain ⟨r1,r2⟩:=zbv h hb
  exact ⟨_,_,_,rfl, .flat _ rfl,r1,r2⟩
 ·cases hx
theorem ze0 {k:Nat}{x:Value}(hk:600<=k % 1024)(h:HV (ETb tb num nod) (.chan (some k)) x):x= .int .i64 (num (k % 1024)):=by
 rcases h with ⟨h,_⟩|⟨k',sn,h,he⟩
 ·cases h
 ·cases h
  rcases he with ⟨h,_⟩|⟨_,h⟩|⟨h,_⟩|⟨h,_⟩
  ·omega
  ·exact h
  ·omega
  ·omega
theorem zks {k:Nat}(h1:600<=k)(h2:k<1024):HR (ETb tb num nod) (.chan (some k)) (.int .i64 (num k)):=by
 have e:k % 1024=k:=Nat.mod_eq_of_lt h2
 exact .inr ⟨k,rfl,by unfold yfg;omega,rfl,fun sn=> .inr (.inl ⟨by omega,by rw [e]⟩)⟩
theorem zkp {E:Ev}(hg:glb s=true)(h:Sim E D ρ s w):Tbs w:=zfa h fun b hb=>(zl6 (List.all_eq_true.1 hg b hb)).1
theorem yqg (w:World):Calls Tryz.prog 12 #[] w fun e w'=> ∃ A,e= .returned (.slice A 3 3)/\yq1 (.slice A 3 3) (ya2 w w')/\Below w.heap.size w w':=by
 go_enter Tryz.func12,Tryz.ntmps12
 go_wp2
 go_ret
 refine ⟨_,rfl,⟨_,_,_,rfl,qV _,fun W hW=>⟨[⟨⟨#[122,48]⟩,60,none,0,0⟩,⟨⟨#[122,49]⟩,-300,some ⟨w.heap.size,0,none⟩,2,2⟩,⟨⟨#[122,50]⟩,120,some ⟨w.heap.size+1,0,none⟩,1,1⟩],?_,?_⟩⟩,((zae _ _).alloc qH _).alloc (by simp;omega) _⟩
 ·refine zhd (e:=80) rfl (hW _ _ ?_)
  unfold ya2
  rw [if_pos qF]
  exact zb7 qH
 ·refine ⟨⟨rfl,rfl,rShf.nil _ _⟩,⟨rfl,rfl,?_⟩,⟨rfl,rfl,?_⟩,trivial⟩
  ·refine zhd (xs:=flat yeg [⟨145000,-240⟩,⟨147000,-300⟩]) (e:=88) rfl (hW _ _ ?_)
   unfold ya2
   rw [if_pos (qV _),Below.heap_alloc _ _ _ (by simp;omega),Below.heap_alloc _ _ _ qH]
   exact zb7 qH
  ·refine zhd (xs:=flat yeg [⟨145450,0⟩]) (e:=88) rfl (hW _ _ ?_)
   unfold ya2
   rw [if_pos qF,Below.heap_alloc _ _ _ qH]
   exact zb7 qH
theorem ypw {args:List Value}{v:Value}{s':ASt}(hx:Yc9 args s=some (v,s')){args':List Value}(h:Sim (ETb tb num nod) D ρ s w)(hr:Rvs (ETb tb num nod) D ρ args args'):
 Calls Tryz.prog 12 ⟨args'⟩ w fun e w'=> ∃ v' ρ' D',e= .returned v'/\Rv (ETb tb num nod) D' ρ' v v'/\Sim (ETb tb num nod) D' ρ' s' w'/\Ex D s ρ w D' s' ρ' w':=by
 unfold Yc9 at hx
 split at hx
 ·cases hx
  obtain rfl:=zay hr
  refine (yqg w).mono ?_
  rintro e w' ⟨A,rfl,hz,hb⟩
  obtain ⟨r1,r2,r3⟩:=zd3 h hb (d:=510) qF (v:= .slice A 3 3) rfl (.inr (.inr (.inr ⟨rfl,hz⟩)))
  exact ⟨_,_,_,rfl,r1,r2,r3⟩
 ·cases hx
theorem zj2 {w:World}: ∀ {zs:List Zon} {ys:List (ByteArray × Int × List Shf)} (_: ∀ y∈ys,y∈zoneL) (_:dAll (dZn w) zs ys),dAll (fun z l=>dZon w z l/\yy5 z l) zs (ys.map fun y=>y.2.2)
 | [],[],_,_=>trivial
 |z::zs,y::ys,hm,h=>by
  obtain ⟨⟨e1,e2,e3⟩,h2⟩:=h
  obtain ⟨k1,k2,k3,k4⟩:=zfr y (hm y (List.mem_cons_self ..))
  exact ⟨⟨e3,k1,by rw [<-e3.len];exact k2,by rw [e2];exact k3,by rw [e2];exact k4⟩,zj2 (fun x hx=>hm x (qW _ hx)) h2⟩
 | [],_::_,_,h=>by cases h
 |_::_,[],_,h=>by cases h
theorem ypz {args:List Value}{v:Value}{s':ASt}(hx:Ydd args s=some (v,s')){args':List Value}(h:Sim (ETb tb num nod) D ρ s w)(hr:Rvs (ETb tb num nod) D ρ args args'):
 Calls Tryz.prog 90 ⟨args'⟩ w fun e w'=> ∃ v' ρ' D',e= .returned v'/\Rv (ETb tb num nod) D' ρ' v v'/\Sim (ETb tb num nod) D' ρ' s' w'/\Ex D s ρ w D' s' ρ' w':=by
 unfold Ydd at hx
 split at hx
 ·rename_i z
  obtain ⟨hk,e⟩:=zax hx
  cases e
  obtain ⟨x,m,rfl,h1,h2⟩:=zag hr
  obtain rfl:=zay h2
  obtain ⟨A,n,c,rfl,hc,hz⟩:=zp4 h1 h hk
  obtain ⟨zs,h3,h4⟩:=hz
  have hn:n<=1000:=by have e1:=h3.len;have e2:=h4.len;have e3:zoneL.length=3:=rfl;omega
  refine (Ycs A n c zs (zoneL.map fun y=>y.2.2) w h3 (zj2 (fun y hy=>hy) h4) hn).mono ?_
  rintro e w' ⟨rfl,hb⟩
  obtain ⟨r1,r2⟩:=zbv h hb
  exact ⟨_,_,_,rfl, .flat _ rfl,r1,r2⟩
 ·cases hx
end
theorem gTab.mono {cs:List Col}{N M:Int}{t:Tab}(h:gTab cs N t)(hm:N<=M):gTab cs M t:=⟨h.1,h.2.1,Int.le_trans h.2.2.1 hm,h.2.2.2⟩
theorem zin {l:Tab}(h: ∀ y∈l,0<y.2/\y.1.length<=12/\vOk y.1)(hs:yac l<=4095):ybi (ybp l)/\yac (ybp l)=yac l:=by
 have hp: ∀ y∈l,0<y.2:=fun y hy=>(h y hy).1
 have hp2:=yj7 hp
 have hsum:=zqi l
 refine ⟨⟨⟨?_,zde l,fun y hy=>?_⟩,hp2⟩,hsum⟩
 ·have h1:=zpk l
  have h2:=zgc hp
  omega
 ·obtain ⟨z,hz,e⟩:=zi9 hy
  have h1:=hp2 y hy
  have h2:=ymk hp2 hy
  obtain ⟨_,k2,k3⟩:=h z hz
  rw [e] at k2 k3
  exact ⟨k2,by omega,by omega,k3⟩
theorem yoq {ns os ps:List Int}{u:Tab}(hu: ∀ x∈u,0<x.2)(r:List Val):yac (ycl ns os ps u r)<=yac u:=by
 unfold ycl
 split
 ·exact zbp hu
 ·exact (zc5 hu).2.2.1
theorem yop {left:Bool}{ns os ps:List Int}{u:Tab}(hu: ∀ x∈u,0<x.2)(r:List Val):0<=yac (yit left ps.length (ycl ns os ps u r))/\yac (yit left ps.length (ycl ns os ps u r))<=yac u+1:=by
 have h:=yoq (ns:=ns) (os:=os) (ps:=ps) hu r
 have h0:=zbp hu
 have hp: ∀ y∈ycl ns os ps u r,0<y.2:=fun y hy=>by
  unfold ycl at hy
  split at hy
  ·cases hy
  ·exact ((zc5 hu).2.1 y hy).1
 cases hl:ycl ns os ps u r with
 |nil=>
  cases left with
  |false=>
   show 0<=yac []/\yac []<=yac u+1
   simp [yac];omega
  |true=>
   show 0<=yac [(List.replicate ps.length zV,(1:Int))]/\yac [(List.replicate ps.length zV,(1:Int))]<=yac u+1
   simp [yac];omega
 |cons y l=>
  rw [hl] at h hp
  show 0<=yac (y::l)/\yac (y::l)<=yac u+1
  exact ⟨zbp hp,by omega⟩
theorem zjl (r:List Val)(n:Int): ∀ l:Tab,yac (l.map fun y=>(r++y.1,n*y.2))=n*yac l
 | []=>by simp [yac]
 |y::l=>by rw [List.map_cons,yac,yac,zjl r n l,Int.mul_add]
theorem zo8 {left:Bool}{ns os ps:List Int}{u:Tab}(hu: ∀ x∈u,0<x.2): ∀ {t:Tab} (_: ∀ x∈t,0<x.2),yac (ybe left ns os ps t u)<=yac t*(yac u+1)
 | [],_=>by simp [ybe,yac]
 |x::t,ht=>by
  have ih:=zo8 hu (left:=left) (ns:=ns) (os:=os) (ps:=ps) (t:=t) fun y hy=>ht y (qW _ hy)
  have hx:=ht x (List.mem_cons_self ..)
  obtain ⟨h1,h2⟩:=yop (left:=left) (ns:=ns) (os:=os) (ps:=ps) hu x.1
  unfold ybe at ih ⊢
  rw [List.flatMap_cons,zbb,yac,Int.add_mul]
  unfold yyt
  rw [zjl]
  have:=Int.mul_le_mul_of_nonneg_left h2 (Int.le_of_lt hx)
  unfold yyt at ih
  omega
section
variable {ns os ps:List Int}{t u:Tab}
end
theorem yf3 {a:Tab}(h:ybi a)(p:List Val × Int->Bool):ybi (a.filter p)/\yac (a.filter p)<=yac a:=by
 refine ⟨⟨⟨qR (List.length_filter_le _ _) h.1.1,h.1.2.1.filter _,fun y hy=>h.1.2.2 y (List.mem_filter.1 hy).1⟩,fun y hy=>h.2 y (List.mem_filter.1 hy).1⟩,zgt h.2 p⟩
theorem yig {c:Nat}(hc:c<=2):ybu oC (nsJ c)/\ybu cC (osJ c)/\ybu (Yc3 c) (osJ c)/\(nsJ c).map (yao oC)= [niJ c]/\(osJ c).map (yao cC)= [oiJ c]/\(osJ c).map (yao (Yc3 c))= [0]/\(nsJ c).length=1/\(osJ c).length=1:=by
 refine yrf (P:=fun c=>ybu oC (nsJ c)/\ybu cC (osJ c)/\ybu (Yc3 c) (osJ c)/\(nsJ c).map (yao oC)= [niJ c]/\(osJ c).map (yao cC)= [oiJ c]/\(osJ c).map (yao (Yc3 c))= [0]/\(nsJ c).length=1/\(osJ c).length=1) hc ?_ ?_ ?_<;>
  exact ⟨ze6 qG,ze6 qG,ze6 qG,by kernel_rfl,by kernel_rfl,by kernel_rfl,rfl,rfl⟩
section
variable {c:Nat}{t0 t1 t2:Tab}
structure TJ (t0 t1 t2:Tab):Prop where
 o0:ybi t0
 o1:ybi t1
 o2:ybi t2
 s0:yac t0<=24
 s1:yac t1<=24
 r0: ∀ x∈t0,okRow oC x.1
 r1: ∀ x∈t1,okRow cC x.1
 r2: ∀ x∈t2,okRow oC x.1
end
end
section
open Go.RowKit
section
variable {cs:List Col}{p:List Nod}{t:Tab}
theorem zqs (h:ybi t):ybi (ybr cs p t)/\yac (ybr cs p t)<=yac t:=yf3 h _
end
end
section
open Go.BigFrame Go.RowKit
theorem ylu {cs:List Col}{p:List Nod}{t:Tab}{k:Nat}{x:List Val × Int}(h:t[k]?=some x):ybr cs p (t.take (k+1))=if (ybz (ycg cs x.1 p)==1)=true then ybr cs p (t.take k)++ [x] else ybr cs p (t.take k):=by
 unfold ybr
 rw [zbc h,List.filter_append,List.filter_cons]
 cases hq:(ybz (ycg cs x.1 p)==1)<;>simp
theorem zqr {cs:List Col}{p:List Nod}(t:Tab):(ybr cs p t).length<=t.length:=List.length_filter_le _ _
theorem Ycj {cs:List Col}{tk:Knd}{t:Tab}(op:Int)(so:ByteArray)(A:Option Addr)(n c:Nat)(p:List Nod)(nm:ByteArray)(cA:Option Addr)(cN cC:Nat)(tA:Option Addr)(tN tC:Nat)(zA:Option Addr)(zN zC:Nat)(w:World)(hX:okX cs p tk)(htab:ybi t)(hrow: ∀ x∈t,okRow cs x.1)(hn:rNod w A n p)(hc:rCol w cA cN cs)(hcc:cN<=cC)(ht:rTab w tA tN t)(hz:rZns w zA zN)(hT:Tbs w):
 Calls Tryz.prog 130 #[.agg #[.int .i64 op, .string so, .slice none 0 0, .slice none 0 0, .slice none 0 0, .slice A n c], .agg #[.string nm, .slice cA cN cC, .slice none 0 0, .slice tA tN tC], .slice zA zN zC] w (ye6 (ybr cs p t) w):=by
 obtain ⟨iE,PE⟩:=ymt
 obtain ⟨w0,hw0⟩: ∃ w0,w0=(w.alloc (.cells #[.int .i64 op, .string so, .slice none 0 0, .slice none 0 0, .slice none 0 0, .slice A n c] 44)).alloc (.cells #[.string nm, .slice cA cN cC, .slice none 0 0, .slice tA tN tC] 31):=⟨_,rfl⟩
 have HB0:Hid (Below w.heap.size w w0):=qL (by rw [hw0];exact (zae _ _).alloc qH _)
 have a5:w0.cell? ⟨w.heap.size,5,none⟩=some (.slice A n c):=by rw [hw0];exact qD
 have b1:w0.cell? ⟨w.heap.size+1,1,none⟩=some (.slice cA cN cC):=by rw [hw0];exact qD
 have HEV:=qL fun W (hb:Below w.heap.size w W) (rA:Option Addr) (rN rC:Nat) (r:List Val) (hr:rVal W rA rN r) (hrow:okRow cs r)=>Yem A n c p cA cN cC rA rN rC r zA zN zC W hX (hn.later hb) (hc.later hb) hcc hr hrow (hz.later hb) (hT.later hb (qV _))
 have HTAB:=qL htab
 have HROW:=qL hrow
 have HT:=qL ht
 have LT:=qL ht.len
 have htn:tN<=4096:=by have:=ht.len;have:=htab.1.1;omega
 clear hX htab hrow hn hc ht hz hT
 go_enter Tryz.func130,Tryz.ntmps130
 go_wp2
 rw [<-hw0]
 clear hw0
 go_loopw [8,16] (fun v iv wr=> ∃ k:Nat,k<=tN/\iv= .int .i64 k/\Below w0.heap.size w0 wr/\Hid (ownD kEnt wr w0.heap.size v (ybr cs p (t.take k)).length (ybr cs p (t.take k)))) (fun _ iv _=>tN - (intOf iv).toNat)
 case atStart=>exact ⟨0,by omega,rfl,za0 _,qL (ownD.nil _ _)⟩
 case round=>
  obtain ⟨k,hk,rfl,hbw,HO⟩:=hrel
  obtain ⟨wx,rfl⟩: ∃ wx,wx=wr:=⟨_,rfl⟩
  have HBW:=qL hbw
  by_cases hlt:k<tN
  ·obtain ⟨g1,o1,rfl,hc1⟩:=HT.out.opn qF
   obtain ⟨x,hx⟩:=zah (l:=t) (k:=k) (by have:=LT.out;omega)
   obtain ⟨xA,xN,xC,x1,x2,x3⟩:=hc1 k x hx
   have X3:=qL x3
   have hB:=btr HB0.out hbw
   have HBB:=qL hB
   have z1:=qM hB x1
   have z2:=qM hB x2
   have hmm:=qP hx
   have HSN:Hid (ybr cs p (t.take (k+1))=if (ybz (ycg cs x.1 p)==1)=true then ybr cs p (t.take k)++ [x] else ybr cs p (t.take k)):=qL (ylu hx)
   have HXB:Hid (0<xN-> ∀ a,xA=some a->a.block<w0.heap.size):=qL fun h0 a e=>qQ (zif x3 h0 a e) HB0.out.size
   have hsl:(ybr cs p (t.take k)).length<1000000:=by have h1:=zqr (cs:=cs) (p:=p) (t.take k);have h2:=List.length_take (i:=k) (l:=t);omega
   have HV0:Hid (∀ y,u8.ownBlock=some y->w0.heap.size<=y):=qL fun y e=>(HO.out.lt y e).1
   have hba:Below wx.heap.size wx (wx.alloc (.cells #[.slice xA xN xC, .int .i64 x.2] 65)):=zae _ _
   have HE2:=qL (HEV.out (wx.alloc (.cells #[.slice xA xN xC, .int .i64 x.2] 65)) (btr hB hba) xA xN xC x.1 (x3.later (btr hB hba)) (HROW.out x hmm))
   have a5:=qM (btr hbw hba) a5
   have b1:=qM (btr hbw hba) b1
   have q0:(wx.alloc (.cells #[.slice xA xN xC, .int .i64 x.2] 65)).cell? ⟨wx.heap.size,0,none⟩=some (.slice xA xN xC):=by simp
   have q1:(wx.alloc (.cells #[.slice xA xN xC, .int .i64 x.2] 65)).cell? ⟨wx.heap.size,1,none⟩=some (.int .i64 x.2):=by simp
   obtain ⟨ev,hev⟩: ∃ ev,ev=ycg cs x.1 p:=⟨_,rfl⟩
   rw [<-hev] at HE2 HSN
   have HBA:=qL hba
   clear hc1 hx x3 hB hbw x1 x2 hmm hba hev
   go_wp2_with fail
   refine HE2.out.mono ?_
   rintro e w5 ⟨rfl,hb5⟩
   have HB5:=qL (btr HBA.out hb5)
   have hb6:Below w5.heap.size w5 (w5.alloc (.cells #[.int .i64 ev.k, .int .i64 ev.m, .string ev.s] 46)):=zae _ _
   have q0:=qM hb6 (qM hb5 q0)
   have q1:=qM hb6 (qM hb5 q1)
   have HB6:=qL (btr HB5.out hb6)
   have HTR:=qL (zjs ev (w5.alloc (.cells #[.int .i64 ev.k, .int .i64 ev.m, .string ev.s] 46)))
   clear hb5 hb6 a5 b1 z1 z2
   obtain ⟨tv,htv⟩: ∃ tv,tv=ybz ev:=⟨_,rfl⟩
   rw [<-htv] at HTR HSN
   clear htv
   go_wp2_with fail
   refine HTR.out.mono ?_
   rintro e w7 ⟨rfl,hb7⟩
   have q0:=qM hb7 q0
   have q1:=qM hb7 q1
   have HB7:=qL (btr HB6.out hb7)
   clear hb7
   cases hd:(tv==1)
   ·have HSF:Hid (ybr cs p (t.take (k+1))=ybr cs p (t.take k)):=qL (by rw [HSN.out,hd];rfl)
    have HBF:=qL (btr HBW.out HB7.out)
    have HOF:Hid (ownD kEnt w7 w0.heap.size u8 (ybr cs p (t.take (k+1))).length (ybr cs p (t.take (k+1)))):=qL (za2 (HO.out.later HB7.out) HSF.out)
    go_wp2
    go_roundw
    case rel=>exact ⟨k+1,by omega,by go_num,HBF.out,HOF⟩
    case measure=>simp [intOf];omega
   ·have HSF:Hid (ybr cs p (t.take (k+1))=ybr cs p (t.take k)++ [x]):=qL (by rw [HSN.out,hd];rfl)
    have HOA:Hid (ownD kEnt (w7.alloc (.cells #[.slice xA xN xC, .int .i64 x.2] 65)) w0.heap.size u8 (ybr cs p (t.take k)).length (ybr cs p (t.take k))):=qL (HO.out.later (HB7.out.alloc HB7.out.size _))
    have HRA:Hid (rVal (w7.alloc (.cells #[.slice xA xN xC, .int .i64 x.2] 65)) xA xN x.1):=qL ((X3.out.later (btr HBB.out HB7.out)).later (zae _ _))
    have HFF:=qL (zh3 (n:=xN) HV0.out HXB.out)
    have hsz5:w0.heap.size<=(w7.alloc (.cells #[.slice xA xN xC, .int .i64 x.2] 65)).heap.size:=qR (btr HBW.out HB7.out).size (zae _ _).size
    go_wp2_with (at_builtin;refine zaq _ rfl _ _ rfl PE HOA.out ⟨_,0,none⟩ ⟨xA,xN,xC,x.2⟩ x rfl rfl (zan _ _ _ _ _ _) ⟨HRA.out,rfl⟩ HFF.out hsl hsz5 ?_;intro v' w' hown' hgrow hat)
    have HBF:=qL (zaf ((btr HBW.out HB7.out).alloc (btr HBW.out HB7.out).size _) hgrow HV0.out)
    have HOF:Hid (ownD kEnt w' w0.heap.size v' (ybr cs p (t.take (k+1))).length (ybr cs p (t.take (k+1)))):=qL (za2 hown' HSF.out)
    clear hown' hgrow hat
    go_wp2
    go_roundw
    case rel=>exact ⟨k+1,by omega,by go_num,HBF.out,HOF⟩
    case measure=>simp [intOf];omega
  ·obtain rfl:k=tN:=by omega
   have HTT:t.take k=t:=List.take_of_length_le (by have:=LT.out;omega)
   obtain ⟨A8,c8,rfl,hcc8,hrd8,hfr8⟩:=HO.out.rd
   have hrd9:rTab wx A8 (ybr cs p (t.take k)).length (ybr cs p t):=by
    have h:=hrd8
    rw [HTT] at h ⊢
    exact h
   have H:=qL (zog A8 (ybr cs p (t.take k)).length c8 (ybr cs p t) wx hrd9 (by rw [HTT];have:=zqr (cs:=cs) (p:=p) t;have:=LT.out;omega) (fun y hy=>(HTAB.out.1.2.2 y (List.mem_filter.1 hy).1).1))
   clear hrd8 hrd9 hfr8 HTT
   go_wp2_with fail
   refine H.out.mono ?_
   rintro e w5 ⟨A9,n9,c9,rfl,hr9,hc9,hb9⟩
   have HR9:=qL hr9
   have HB9:=qL (btr HB0.out (btr hbw hb9))
   have HSZ:=qL (qR HB0.out.size hbw.size)
   clear hr9 hb9
   go_wp2
   go_ret2
   exact ⟨_,_,_,rfl,HR9.out.mono HSZ.out,hc9,HB9.out⟩
theorem Yef {cs:List Col}{t:Knd}(A:Option Addr)(n c:Nat)(p:List Nod)(cA:Option Addr)(cN cC:Nat)(zA:Option Addr)(zN zC:Nat)(w:World)(hX:okX cs p t)(ht:t.k=1∨t.k=0)(hn:rNod w A n p)(hc:rCol w cA cN cs)(hcc:cN<=cC)(hz:rZns w zA zN)(hT:Tbs w):
 Calls Tryz.prog 193 #[.slice A n c, .slice cA cN cC, .slice zA zN zC] w fun e w'=>e= .returned (.int .i64 0)/\Below w.heap.size w w':=by
 have H:=qL (Ych A n c p cA cN cC zA zN zC w hX hn hc hcc hz hT)
 clear hX hn hc hcc hz hT
 obtain ⟨k,nl⟩:=t
 simp only at ht
 rcases ht with rfl|rfl
 all_goals
  go_enter Tryz.func193,Tryz.ntmps193
  go_wp2_with fail
  refine H.out.mono ?_
  rintro e w1 ⟨rfl,hb1⟩
  have HB:=qL hb1
  clear hb1
  go_wp2
  go_ret
  exact ⟨rfl,HB.out⟩
section
variable {tb:Nat->Tab}{num:Nat->Int}{nod:Nat->List Nod}{D:Nat->Prop}{ρ:Nat->Pl}{s:ASt}{w w':World}
theorem ylc {L:List Nat}(hL: ∀ d∈L,500<=d/\d<510/\ ∃ cs t,okX cs (nod d) t){args:List Value}{v:Value}{s':ASt}(hx:ylb L args s=some (v,s')){args':List Value}(h:Sim (ETb tb num nod) D ρ s w)(hr:Rvs (ETb tb num nod) D ρ args args'):
 Calls Tryz.prog 175 ⟨args'⟩ w fun e w'=> ∃ v' ρ' D',e= .returned v'/\Rv (ETb tb num nod) D' ρ' v v'/\Sim (ETb tb num nod) D' ρ' s' w'/\Ex D s ρ w D' s' ρ' w':=by
 unfold ylb at hx
 split at hx
 ·rename_i k
  obtain ⟨hk,e⟩:=zax hx
  cases e
  rw [Bool.and_eq_true] at hk
  obtain ⟨hk,hg⟩:=hk
  obtain ⟨d,hd,he⟩:=List.any_eq_true.1 hk
  have he:=qU he
  obtain ⟨l1,l2,cs,t,hX⟩:=hL d hd
  rw [he] at l1 l2 hX
  obtain ⟨x,m,rfl,h1,h2⟩:=zag hr
  obtain rfl:=zay h2
  obtain ⟨A,n,c,rfl,hc,hn⟩:=zp3 h1 h l1 l2
  refine (ym0 A n c _ w hX hn (zkp hg h)).mono ?_
  rintro e w' ⟨rfl,hb⟩
  obtain ⟨r1,r2⟩:=zbv h hb
  exact ⟨_,_,_,rfl, .flat _ rfl,r1,r2⟩
 ·cases hx
theorem ylf {L:List (Nat × List Col)}(hL: ∀ p∈L,500<=p.1/\p.1<510/\ ∃ t,(t.k=1∨t.k=0)/\okX p.2 (nod p.1) t){args:List Value}{v:Value}{s':ASt}(hx:yle L args s=some (v,s')){args':List Value}(h:Sim (ETb tb num nod) D ρ s w)(hr:Rvs (ETb tb num nod) D ρ args args'):
 Calls Tryz.prog 193 ⟨args'⟩ w fun e w'=> ∃ v' ρ' D',e= .returned v'/\Rv (ETb tb num nod) D' ρ' v v'/\Sim (ETb tb num nod) D' ρ' s' w'/\Ex D s ρ w D' s' ρ' w':=by
 unfold yle at hx
 split at hx
 ·rename_i k co z
  obtain ⟨hk,e⟩:=zax hx
  cases e
  simp only [Bool.and_eq_true] at hk
  obtain ⟨hk,hz,hg⟩:=hk
  obtain ⟨p,hp,he⟩:=List.any_eq_true.1 hk
  rw [Bool.and_eq_true] at he
  obtain ⟨he,hf⟩:=he
  have he:=qU he
  obtain ⟨l1,l2,t,ht,hX⟩:=hL p hp
  rw [he] at l1 l2 hX
  obtain ⟨x1,m,rfl,h1,hr⟩:=zag hr
  obtain ⟨x2,m,rfl,h2,hr⟩:=zag hr
  obtain ⟨x3,m,rfl,h3,hr⟩:=zag hr
  obtain rfl:=zay hr
  obtain ⟨A,n,c,rfl,hc,hn⟩:=zp3 h1 h l1 l2
  obtain ⟨cA,cN,cC,rfl,hco,hcc⟩:=zbn hf h h2
  obtain ⟨zA,zN,zC,rfl,hzc,hzn⟩:=zp4 h3 h hz
  refine (Yef A n c _ cA cN cC zA zN zC w hX ht hn hco hcc hzn (zkp hg h)).mono ?_
  rintro e w' ⟨rfl,hb⟩
  obtain ⟨r1,r2⟩:=zbv h hb
  exact ⟨_,_,_,rfl, .flat _ rfl,r1,r2⟩
 ·cases hx
theorem zou {co:Value}{n d d2:Nat}: ∀ {G:List WhrA} (_:Yc1 s co n d G=some d2),∃ g∈G,g.n=n/\g.d=d/\g.d2=d2/\d<32/\d2<32/\yak 3 s co (flat yam g.cs)=true
 | [],h=>by cases h
 |g::l,h=>by
  unfold Yc1 at h
  cases hz:(Nat.beq g.n n&&(Nat.beq g.d d&&(Nat.ble d 31&&(Nat.ble g.d2 31&&yak 3 s co (flat yam g.cs)))))
  ·rw [hz] at h
   obtain ⟨g',hg,h⟩:=zou (G:=l) h
   exact ⟨g',qW _ hg,h⟩
  ·rw [hz] at h
   have h:some g.d2=some d2:=h
   cases h
   simp only [Bool.and_eq_true] at hz
   obtain ⟨k1,k2,k3,k4,k5⟩:=hz
   have k3:=qS k3
   have k4:=qS k4
   exact ⟨g,List.mem_cons_self ..,qU k1,qU k2,rfl,by omega,by omega,k5⟩
structure okWh (cs:List Col)(p:List Nod)(t:Knd)(u:Tab):Prop where
 x:okX cs p t
 tab:ybi u
 row: ∀ x∈u,okRow cs x.1
theorem yk8 {G:List WhrA}(hG: ∀ g∈G,500<=g.n/\g.n<510/\(∃ t,okWh g.cs (nod g.n) t (tb g.d))/\tb g.d2=ybr g.cs (nod g.n) (tb g.d)){args:List Value}{v:Value}{s':ASt}(hx:yk7 G args s=some (v,s')){args':List Value}(h:Sim (ETb tb num nod) D ρ s w)(hr:Rvs (ETb tb num nod) D ρ args args'):
 Calls Tryz.prog 130 ⟨args'⟩ w fun e w'=> ∃ v' ρ' D',e= .returned v'/\Rv (ETb tb num nod) D' ρ' v v'/\Sim (ETb tb num nod) D' ρ' s' w'/\Ex D s ρ w D' s' ρ' w':=by
 unfold yk7 at hx
 split at hx
 ·rename_i op so k nm co kt z
  split at hx
  ·rename_i d2 hf
   obtain ⟨hk,e⟩:=zax hx
   cases e
   rw [Bool.and_eq_true] at hk
   obtain ⟨hz,hg⟩:=hk
   obtain ⟨g,hgm,e1,e2,rfl,l4,l5,hf2⟩:=zou hf
   obtain ⟨l1,l2,⟨t,hX⟩,heq⟩:=hG g hgm
   rw [e1] at l1 l2 hX heq
   rw [e2] at hX heq
   obtain ⟨x1,m,rfl,h1,hr⟩:=zag hr
   obtain ⟨x2,m,rfl,h2,hr⟩:=zag hr
   obtain ⟨x3,m,rfl,h3,hr⟩:=zag hr
   obtain rfl:=zay hr
   obtain ⟨l,rfl,h5⟩:=zdl h1
   obtain ⟨a1,m,rfl,g1,h5⟩:=zag h5
   obtain ⟨a2,m,rfl,g2,h5⟩:=zag h5
   obtain ⟨a3,m,rfl,g3,h5⟩:=zag h5
   obtain ⟨a4,m,rfl,g4,h5⟩:=zag h5
   obtain ⟨a5,m,rfl,g5,h5⟩:=zag h5
   obtain ⟨a6,m,rfl,g6,h5⟩:=zag h5
   obtain rfl:=zay h5
   obtain rfl:=zat g1 rfl
   obtain rfl:=zat g2 rfl
   obtain rfl:=zat g3 rfl
   obtain rfl:=zat g4 rfl
   obtain rfl:=zat g5 rfl
   obtain ⟨A,n,c,rfl,hc,hn⟩:=zp3 g6 h l1 l2
   obtain ⟨l,rfl,h5⟩:=zdl h2
   obtain ⟨b1,m,rfl,i1,h5⟩:=zag h5
   obtain ⟨b2,m,rfl,i2,h5⟩:=zag h5
   obtain ⟨b3,m,rfl,i3,h5⟩:=zag h5
   obtain ⟨b4,m,rfl,i4,h5⟩:=zag h5
   obtain rfl:=zay h5
   obtain rfl:=zat i1 rfl
   obtain rfl:=zat i3 rfl
   obtain ⟨cA,cN,cC,rfl,hco,hcc⟩:=zbn hf2 h i2
   obtain ⟨tA,tN,tC,rfl,htc,ht⟩:=zcq i4 h (by unfold tDe;exact Nat.ble_eq_true_of_le qF)
   obtain ⟨zA,zN,zC,rfl,hzc,hzn⟩:=zp4 h3 h hz
   refine (Ycj op so A n c _ nm cA cN cC tA tN tC zA zN zC w hX.x hX.tab hX.row hn hco hcc ht hzn (zkp hg h)).mono ?_
   rw [<-heq]
   rintro e w' ⟨B,m,b,rfl,hr',hb',hb⟩
   obtain ⟨r1,r2,r3⟩:=zd3 h hb (d:=g.d2) qF (v:= .slice B m b) rfl (.inl ⟨by omega,zbw hr' (qV _) hb'⟩)
   exact ⟨_,_,_,rfl, .tuple _ _ (.cons _ _ _ _ r1 (.cons _ _ _ _ (.flat _ rfl) .nil)),r2,r3⟩
  ·cases hx
 ·cases hx
end
end
end Go.Proofs.YthcalfeoejdcgaaGreatDoor
