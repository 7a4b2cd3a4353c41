import Derived.KernelRfl
import Derived.Test.YthcalfeoejdcgaaGreatDoorK09
import Derived.Shelf.SlSortCmp.Whole1
import Derived.Shelf.SlSortCmp.NoneTotal
import Derived.Ground.SlsfProg
import Derived.Lib.AppendStr
import Derived.Laws.IdiomStrings
namespace Go.Proofs.YthcalfeoejdcgaaGreatDoor
set_option linter.unusedSimpArgs false
set_option linter.unusedVariables false
set_option maxRecDepth 100000
set_option maxHeartbeats 20000000
section
section
open Go.RowKit Go.BigFrame
theorem zch {v:Val}(h:yab v=true): -1073741824<=v.m/\v.m<=1073741824:=by
 rcases za8 h with rfl|⟨m,rfl,hm⟩|⟨m,rfl,hm⟩|⟨s,rfl,_⟩|⟨m,rfl,hm⟩<;>simp<;>omega
theorem zg5 : ∀ {l:Tab} (_: ∀ x∈l,0<x.2) (r:List Val),0<=cnt l r/\cnt l r<=yac l
 | [],_,r=>by simp [cnt,yac]
 |x::l,h,r=>by
  have h1:=h x (List.mem_cons_self ..)
  have ih:=zg5 (fun y hy=>h y (qW _ hy)) r
  rw [cnt,yac]
  split<;>omega
theorem zgt : ∀ {t:Tab} (_: ∀ x∈t,0<x.2) (p:List Val × Int->Bool),yac (t.filter p)<=yac t
 | [],_,p=>by simp [yac]
 |x::t,h,p=>by
  have h1:=h x (List.mem_cons_self ..)
  have ih:=zgt (fun y hy=>h y (qW _ hy)) p
  rw [List.filter_cons]
  split<;>simp only [yac]<;>omega
end
section
open Go.RowKit Go.BigFrame
end
section
open Go.RowKit Go.BigFrame
def okCols (cs:List Col):Prop:=1<=cs.length/\cs.length<=12/\ ∀ (j:Nat) (c:Col),cs[j]?=some c->ybc c.nm=true/\1<=c.k/\c.k<=4/\yao cs c.nm=j
theorem yow (s:ByteArray)(w:World)(h:ybc s=true):Calls Tryz.prog 123 #[.string s] w fun e w'=>e= .returned (.bool true)/\Below w.heap.size w w':=
 (Yhh s w).mono fun e w' ⟨h1,h2⟩=>⟨by rw [h1];exact zal h,h2⟩
theorem ypn (A:Option Addr)(n c:Nat)(cs:List Col)(w:World)(h:rCol w A n cs)(hok:okCols cs):Calls Tryz.prog 89 #[.slice A n c] w fun e w'=>e= .returned (.int .i64 0)/\Below w.heap.size w w':=by
 have HT:=qL h
 have HL:=qL h.len
 have HK:=qL hok
 have hn1:1<=n:=by have:=h.len;have:=hok.1;omega
 have hn:n<=12:=by have:=h.len;have:=hok.2.1;omega
 have d0:decide (n<1)=false:=by simp;omega
 have d1:decide (12<n)=false:=by simp;omega
 clear h hok
 go_enter Tryz.func89,Tryz.ntmps89
 go_wp2
 go_loopw [15] (fun i wr=> ∃ k:Nat,k<=n/\i= .int .i64 k/\Below w.heap.size w wr) (fun i _=>n - (intOf i).toNat)
 case atStart=>exact ⟨0,by omega,rfl,za0 _⟩
 case round=>
  obtain ⟨k,hk,rfl,hbw⟩:=hrel
  have HBW:=qL hbw
  by_cases hlt:k<n
  ·obtain ⟨b1,o1,rfl,hc1⟩:=HT.out.opn qF
   obtain ⟨x,hx⟩:=zah (l:=cs) (k:=k) (by have:=HL.out;omega)
   obtain ⟨x1,x2,x3⟩:=hc1 k x hx
   obtain ⟨q1,q2,q3,q4⟩:=HK.out.2.2 k x hx
   have y1:=qM hbw x1
   have y2:=qM hbw x2
   have y3:=qM hbw x3
   have HN:=qL (yow x.nm (wr.alloc (.cells #[.string x.nm, .int .i64 x.k, .bool x.nl] 56)) q1)
   have HI:=qL fun W (hb:Below w.heap.size w W)=>zl9 (some ⟨b1,o1,none⟩) n c cs x.nm W (HT.out.later hb) qF
   have d3:decide (x.k<1)=false:=by simp;omega
   have d4:decide (4<x.k)=false:=by simp;omega
   have Q4:=qL q4
   clear hc1 hx q1 q4 hbw x1 x2 x3
   go_wp2_with fail
   refine HN.out.mono ?_
   rintro e w2 ⟨rfl,hb2⟩
   have z1:w2.cell? ⟨wr.heap.size,0,none⟩=some (.string x.nm):=qM hb2 qH
   have z2:w2.cell? ⟨wr.heap.size,1,none⟩=some (.int .i64 x.k):=qM hb2 qH
   have HB2:=qL (btr HBW.out (btr (zae _ _) hb2))
   have HI2:Hid (Calls Tryz.prog 124 #[.slice (some ⟨b1,o1,none⟩) n c, .string x.nm] w2 fun e w'=>e= .returned (.int .i64 k)/\Below w2.heap.size w2 w'):=qL (by have h:=HI.out w2 HB2.out;rw [Q4.out] at h;exact h)
   clear hb2
   go_wp2_with fail
   refine HI2.out.mono ?_
   rintro e w3 ⟨rfl,hb3⟩
   have HB3:=qL (btr HB2.out hb3)
   clear hb3
   go_wp2
   go_roundw
   case rel=>exact ⟨k+1,by omega,by go_num,HB3.out⟩
   case measure=>simp [intOf];omega
  ·go_wp2
   go_ret
   exact ⟨zak rfl,hbw⟩
theorem chkE (A:Option Addr)(n c:Nat)(cs:List Col)(B:Option Addr)(m d:Nat)(r:List Val)(w:World)(h:rCol w A n cs)(hr:rVal w B m r)(hok:okRow cs r)(hn:n<=1000):
 Calls Tryz.prog 93 #[.slice A n c, .slice B m d] w fun e w'=>e= .returned (.int .i64 0)/\Below w.heap.size w w':=by
 have HT:=qL h
 have HR:=qL hr
 have HL:=qL h.len
 have HRL:=qL hr.len
 have HK:=qL hok
 obtain rfl:m=n:=by have:=h.len;have:=hr.len;have:=hok.1;omega
 clear h hr hok
 go_enter Tryz.func93,Tryz.ntmps93
 go_wp2
 go_loopw [15] (fun i wr=> ∃ k:Nat,k<=m/\i= .int .i64 k/\Below w.heap.size w wr) (fun i _=>m - (intOf i).toNat)
 case atStart=>exact ⟨0,by omega,rfl,za0 _⟩
 case round=>
  obtain ⟨k,hk,rfl,hbw⟩:=hrel
  have HBW:=qL hbw
  by_cases hlt:k<m
  ·obtain ⟨b1,o1,rfl,hc1⟩:=HT.out.opn qF
   obtain ⟨x,hx⟩:=zah (l:=cs) (k:=k) (by have:=HL.out;omega)
   obtain ⟨x1,x2,x3⟩:=hc1 k x hx
   obtain ⟨b2,o2,rfl,hc2⟩:=HR.out.opn qF
   obtain ⟨v,hv⟩:=zah (l:=r) (k:=k) (by have:=HRL.out;omega)
   obtain ⟨v1,v2,v3⟩:=hc2 k v hv
   obtain ⟨q1,q2⟩:=HK.out.2 k v x hv hx
   have y1:=qM hbw v1
   have y2:=qM hbw v2
   have y3:=qM hbw v3
   have u1:=qM (btr hbw (zae wr (.cells #[.int .i64 v.k, .int .i64 v.m, .string v.s] 46))) x1
   have u2:=qM (btr hbw (zae wr (.cells #[.int .i64 v.k, .int .i64 v.m, .string v.s] 46))) x2
   have u3:=qM (btr hbw (zae wr (.cells #[.int .i64 v.k, .int .i64 v.m, .string v.s] 46))) x3
   have HN:=qL (zff v ((wr.alloc (.cells #[.int .i64 v.k, .int .i64 v.m, .string v.s] 46)).alloc (.cells #[.string x.nm, .int .i64 x.k, .bool x.nl] 56)) q1)
   have hq:((v.k==0)=true/\(v.k !=0)=false/\Hid (x.nl=true))∨((v.k==0)=false/\(v.k !=0)=true/\(v.k !=x.k)=false):=by
    rcases q2 with ⟨a,b⟩|⟨a,b⟩
    ·exact .inl ⟨by simp [a],by simp [a],qL b⟩
    ·exact .inr ⟨by simp [a],by simp [a],by simp [b]⟩
   clear hc1 hx hc2 hv q1 q2 hbw x1 x2 x3 v1 v2 v3
   go_wp2_with fail
   refine HN.out.mono ?_
   rintro e w2 ⟨rfl,hb2⟩
   have z1:w2.cell? ⟨wr.heap.size,0,none⟩=some (.int .i64 v.k):=qM hb2 qH
   have z2:w2.cell? ⟨wr.heap.size+1,1,none⟩=some (.int .i64 x.k):=qM hb2 qH
   have z3:w2.cell? ⟨wr.heap.size+1,2,none⟩=some (.bool x.nl):=qM hb2 qH
   have HB2:=qL (btr HBW.out (btr ((zae _ _).alloc qH _) hb2))
   clear hb2
   rcases hq with ⟨e1,e2,e3⟩|⟨e1,e2,e3⟩
   ·have z4:w2.cell? ⟨wr.heap.size+1,2,none⟩=some (.bool true):=by rw [<-e3.out];exact z3
    clear z3
    go_wp2
    go_roundw
    case rel=>exact ⟨k+1,by omega,by go_num,HB2.out⟩
    case measure=>simp [intOf];omega
   ·go_wp2
    go_roundw
    case rel=>exact ⟨k+1,by omega,by go_num,HB2.out⟩
    case measure=>simp [intOf];omega
  ·go_wp2
   go_ret
   exact ⟨zak rfl,hbw⟩
end
section
open Go.RowKit Go.BigFrame
theorem Yel (r:Rel)(cs:List Col)(t:Tab)(w:World)(hc:rCol w r.coA r.coN cs)(ht:rTab w r.roA r.roN t)(h1:okCols cs)(h2:ybi t)(h3: ∀ x∈t,okRow cs x.1):
 Calls Tryz.prog 62 #[.agg #[.string r.nm, .slice r.coA r.coN r.coC, .slice r.keA r.keN r.keC, .slice r.roA r.roN r.roC]] w fun e w'=>e= .returned (.int .i64 0)/\Below w.heap.size w w':=by
 obtain ⟨nm,cA,cN,cC,kA,kN,kC,rA,rN,rC⟩:=r
 simp only at hc ht ⊢
 obtain ⟨W0,hW0⟩: ∃ W0,W0=w.alloc (.cells #[.string nm, .slice cA cN cC, .slice kA kN kC, .slice rA rN rC] 31):=⟨_,rfl⟩
 have HC:=qL hc
 have HT:=qL ht
 have HL:=qL ht.len
 have HK:=qL h3
 have H2:=qL h2
 have hcn:cN<=12:=by have:=hc.len;have:=h1.2.1;omega
 have HA:=qL fun W (hb:Below w.heap.size w W)=>ypn cA cN cC cs W (hc.later hb) h1
 have HB:=qL fun W (hb:Below w.heap.size w W)=>zn4 rA rN rC t W (ht.later hb) h2.1
 have HD:=qL fun W (hb:Below w.heap.size w W)=>ymh rA rN rC t W (ht.later hb) h2
 have hn:rN<=4096:=by have:=ht.len;have:=h2.1.1;omega
 clear hc ht h1 h2 h3 hW0
 go_enter Tryz.func62,Tryz.ntmps62
 go_wp2_with fail
 refine (HA.out _ (zae _ _)).mono ?_
 rintro e w1 ⟨rfl,hb1⟩
 have z1:w1.cell? ⟨w.heap.size,3,none⟩=some (.slice rA rN rC):=qM hb1 qH
 have B1:=qL (btr (zae _ _) hb1)
 have C1:=qL hb1
 clear hb1
 go_wp2_with fail
 refine (HB.out _ B1.out).mono ?_
 rintro e w2 ⟨rfl,hb2⟩
 have z2:=qM hb2 z1
 have B2:=qL (btr B1.out hb2)
 have C2:=qL (btr C1.out hb2)
 clear hb2
 go_wp2_with fail
 refine (HD.out _ B2.out).mono ?_
 rintro e w3 ⟨rfl,hb3⟩
 have z3:=qM hb3 z2
 have B3:=qL (btr B2.out hb3)
 have C3:=qL (btr C2.out hb3)
 clear hb3 z1 z2
 go_wp2
 go_loopw [27] (fun i wr=> ∃ k:Nat,k<=rN/\i= .int .i64 k/\Below w3.heap.size w3 wr) (fun i _=>rN - (intOf i).toNat)
 case atStart=>exact ⟨0,by omega,rfl,za0 _⟩
 case round=>
  obtain ⟨k,hk,rfl,hbw⟩:=hrel
  have HBW:=qL hbw
  have HFI:=qL (btr B3.out hbw)
  by_cases hlt:k<rN
  ·obtain ⟨b1,o1,rfl,hc1⟩:=HT.out.opn qF
   obtain ⟨x,hx⟩:=zah (l:=t) (k:=k) (by have:=HL.out;omega)
   obtain ⟨qA,qN,qC,x1,x2,x3⟩:=hc1 k x hx
   have y1:=qM HFI.out x1
   have y2:=qM HFI.out x2
   have u1:(wr.alloc (.cells #[.slice qA qN qC, .int .i64 x.2] 65)).cell? ⟨w.heap.size,1,none⟩=some (.slice cA cN cC):=qM (btr C3.out (btr hbw (zae _ _))) qH
   have HX:=qL (chkE cA cN cC cs qA qN qC x.1 (wr.alloc (.cells #[.slice qA qN qC, .int .i64 x.2] 65)) (HC.out.later (btr HFI.out (zae _ _))) (x3.later (btr HFI.out (zae _ _))) (HK.out x (qP hx)) qF)
   clear hc1 hx x3 hbw x1 x2
   go_wp2_with (go_at_call 93;refine (HX.out).mono ?_;rintro e w' ⟨rfl,hb⟩)
   go_roundw
   case rel=>exact ⟨k+1,by omega,by go_num,btr HBW.out (btr (zae _ _) hb)⟩
   case measure=>simp [intOf];omega
  ·go_wp2
   go_ret
   exact ⟨zak rfl,HFI.out⟩
end
section
open Go.RowKit Go.BigFrame
theorem yzl (A:Option Addr)(n c:Nat)(B:Option Addr)(m d:Nat)(t:Tab)(w:World)(ha:rTab w A n t)(hb:rTab w B m t)(hn:t.length<=100000)(h12: ∀ x∈t,x.1.length<=100000):
 Calls Tryz.prog 17 #[.slice A n c, .slice B m d] w fun e w'=>e= .returned (.bool true)/\Below w.heap.size w w':=by
 have hl:=ha.len
 have hl2:=hb.len
 obtain rfl:m=n:=by omega
 have HA:=qL ha
 have HB:=qL hb
 have HL:=qL hl
 have H12:=qL h12
 have hn2:m<=100000:=by omega
 clear ha hb hl hl2 h12
 go_enter Tryz.func17,Tryz.ntmps17
 go_wp2
 go_loopw [5] (fun i wr=> ∃ k:Nat,k<=m/\i= .int .i64 k/\Below w.heap.size w wr) (fun i _=>m - (intOf i).toNat)
 case atStart=>exact ⟨0,by omega,rfl,za0 _⟩
 case round=>
  obtain ⟨k,hk,rfl,hbw⟩:=hrel
  by_cases hlt:k<m
  ·obtain ⟨b1,o1,rfl,hc1⟩:=(HA.out.later hbw).opn qF
   obtain ⟨b2,o2,rfl,hc2⟩:=(HB.out.later hbw).opn qF
   obtain ⟨x,hx⟩:=zah (l:=t) (k:=k) (by have:=HL.out;omega)
   obtain ⟨rA,rN,rC,x1,x2,x3⟩:=hc1 k x hx
   obtain ⟨sA,sN,sC,y1,y2,y3⟩:=hc2 k x hx
   have h12:=H12.out x (qP hx)
   have gx1:=Gro.cell x1
   have gx2:=Gro.cell x2
   have gy1:=Gro.cell y1
   have gy2:=Gro.cell y2
   have X3:=qL x3
   have Y3:=qL y3
   have hz:(x.2 !=x.2)=false:=by simp
   have hcm:(yag x.1 x.1==0)=true:=by simp [zf0]
   have hsame:=fun W (hb:Below wr.heap.size wr W)=>Yh2 rA rN rC sA sN sC x.1 x.1 W (X3.out.later hb) (Y3.out.later hb) (by have:=X3.out.len;omega) (by have:=Y3.out.len;omega)
   rw [hcm] at hsame
   have HSA:=qL hsame
   clear hc1 hc2 x1 x2 x3 y1 y2 y3 hx hsame hcm
   go_wp2_with fail
   refine zai qG qG ?_;(repeat (go_big_quiet_step ((go_at_call 37;exact Calls.gro_of (HSA.out _ (Gro.below _))))));refine wpQuiet_nil ?_;intro _ hw';obtain ⟨pq,hw''⟩:=hw';subst hw'';have hbq:=pq.below;revert hbq;generalize pq.world=wq;intro hbq
   have hb2:=btr hbw hbq
   clear gx1 gx2 gy1 gy2
   go_wp2
   go_roundw
   case rel=>exact ⟨k+1,by omega,by go_num,hb2⟩
   case measure=>simp [intOf];omega
  ·go_wp2
   go_ret
   exact ⟨zal rfl,hbw⟩
end
section
open Go.RowKit Go.RowKit
section
variable {tb:Nat->Tab}{num:Nat->Int}{D:Nat->Prop}{ρ:Nat->Pl}{s:ASt}{w w':World}
theorem zat {E:Ev}{v v':Value}(h:Rv E D ρ v v')(hf:ybx v=true):v'=v:=by
 have:=zih (.cons _ _ _ _ h .nil) (by simp [hf])
 injection this
theorem zdl {E:Ev}{l:List Value}{v':Value}(h:Rv E D ρ (.agg ⟨l⟩) v'): ∃ l',v'= .agg ⟨l'⟩/\Rvs E D ρ l l':=by
 cases h with
 |flat _ h=>cases h
 |agg l l' h=>exact ⟨_,rfl,h⟩
theorem zag {E:Ev}{a:Value}{l l':List Value}(h:Rvs E D ρ (a::l) l'): ∃ b m,l'=b::m/\Rv E D ρ a b/\Rvs E D ρ l m:=by
 cases h with
 |cons a b l m h t=>exact ⟨_,_,rfl,h,t⟩
theorem zay {E:Ev}{l':List Value}(h:Rvs E D ρ [] l'):l'= []:=by cases h;rfl
theorem ypy {E:Ev}{C:List (List Col)}(hC: ∀ cs∈C,okCols cs){args:List Value}{v:Value}{s':ASt}(hx:Ydc C args s=some (v,s')){args':List Value}(h:Sim E D ρ s w)(hr:Rvs E D ρ args args'):
 Calls Tryz.prog 89 ⟨args'⟩ w fun e w'=> ∃ v' ρ' D',e= .returned v'/\Rv E D' ρ' v v'/\Sim E D' ρ' s' w'/\Ex D s ρ w D' s' ρ' w':=by
 unfold Ydc at hx
 split at hx
 ·rename_i co
  obtain ⟨hk,e⟩:=zax hx
  cases e
  obtain ⟨cs,hcs,hf⟩:=List.any_eq_true.1 hk
  obtain ⟨x,m,rfl,h1,h2⟩:=zag hr
  obtain rfl:=zay h2
  obtain ⟨cA,cN,cC,rfl,hco,hcc⟩:=zbn hf h h1
  refine (ypn cA cN cC cs w hco (hC cs hcs)).mono ?_
  rintro e w' ⟨rfl,hb⟩
  obtain ⟨r1,r2⟩:=zbv h hb
  exact ⟨_,_,_,rfl, .flat _ rfl,r1,r2⟩
 ·cases hx
theorem zfa {E:Ev}(h:Sim E D ρ s w)(hh: ∀ b∈ [0,2,4,64,65],s.heap.get b=h0.get b):Tbs w:=by
 have bd: ∀ b∈ [0,2,4,64,65],∀ e z l,h0.get b=some ⟨false, .cells e z l⟩-> ∀ (j:Nat) (v:Value),l[j]?=some v-> ∃ v',w.cell? ⟨(ρ b).blk,(ρ b).off+j,none⟩=some v'/\Rv E D ρ v v':=fun b hb e z l hg=>(h.bd b _ ((hh b hb).trans hg)).2
 have gl: ∀ g,g<64->(ρ g).blk=g/\(ρ g).off=0:=h.glob
 have str: ∀ (D:Nat->Prop) (b:Nat),b∈ [0,2,4,64,65]-> ∀ e z l,h0.get b=some ⟨false, .cells e z l⟩->(∀ v∈l,ybx v=true)-> ∀ (j:Nat) (v:Value),l[j]?=some v->w.cell? ⟨(ρ b).blk,(ρ b).off+j,none⟩=some v:=fun _ b hb e z l hg hf j v hv=>by
  obtain ⟨v',h1,h2⟩:=bd b hb e z l hg j v hv
  rw [h1,zat h2 (hf v (qP hv))]
 have sl: ∀ {v:Value} {i n lb:Nat},Rv E D ρ (.slice (some ⟨i,0,none⟩) n lb) v-> ∃ c,v= .slice (some ⟨(ρ i).blk,(ρ i).off,none⟩) n c/\lb<=c/\c<=maxLen:=fun {v i n lb} hr=>by
  cases hr with
  |flat _ h=>cases h
  |slice i o n lb c h h1 h2 h3 h4=>exact ⟨c,rfl,h2,h3⟩
 refine ⟨?_,?_,?_⟩
 ·obtain ⟨v',h1,h2⟩:=bd 4 qH 42 1 _ (by rw [zec];rfl) 0 _ rfl
  obtain ⟨c,rfl,hc1,hc2⟩:=sl h2
  rw [(gl 4 qF).1,(gl 4 qF).2] at h1
  exact ⟨_,_,c,h1,hc1,hc2,str D 65 qH 9 1 wrds (by rw [zec];rfl) (by decide)⟩
 ·obtain ⟨v',h1,h2⟩:=bd 0 qH 42 1 _ (by rw [zec];rfl) 0 _ rfl
  obtain ⟨c,rfl,hc1,hc2⟩:=sl h2
  rw [(gl 0 qF).1,(gl 0 qF).2] at h1
  exact ⟨_,_,c,h1,hc1,hc2,str D 64 qH 9 1 syms (by rw [zec];rfl) (by decide)⟩
 ·intro j v hv
  have:=str D 2 qH 4 1 usedc (by rw [zec];rfl) (by decide) j v hv
  rwa [(gl 2 qF).1,(gl 2 qF).2,Nat.zero_add] at this
theorem ypx {E:Ev}{args:List Value}{v:Value}{s':ASt}(hx:Yda args s=some (v,s')){args':List Value}(h:Sim E D ρ s w)(hr:Rvs E D ρ args args'):
 Calls Tryz.prog 13 ⟨args'⟩ w fun e w'=> ∃ v' ρ' D',e= .returned v'/\Rv E D' ρ' v v'/\Sim E D' ρ' s' w'/\Ex D s ρ w D' s' ρ' w':=by
 unfold Yda at hx
 split at hx
 ·obtain ⟨hk,e⟩:=zax hx
  cases e
  obtain rfl:=zay hr
  have ht:=zfa h fun b hb=>(zl6 (List.all_eq_true.1 hk b hb)).1
  refine (yyu ht).mono ?_
  rintro e w' ⟨rfl,hb⟩
  obtain ⟨r1,r2⟩:=zbv h hb
  exact ⟨_,_,_,rfl, .flat _ rfl,r1,r2⟩
 ·cases hx
end
end
section
open Go.RowKit
end
section
open Go.RowKit Go.BigFrame
theorem zh4 {cs:List Col}{t:Tab}(hc:cs.length<=12)(h:gTab cs 30 t):ybi t/\yac t<=30/\(∀ x∈t,0<x.2)/\(∀ x∈t,okRow cs x.1)/\t.length<=30:=by
 obtain ⟨hb,he,hs,hr⟩:=h
 have hp: ∀ x∈t,0<x.2:=fun x hx=>(he x hx).1
 have hl:(t.length:Int)<=yac t:=by
  clear hb hs hr he
  induction t with
  |nil=>simp [yac]
  |cons x l ih=>
   have h1:=hp x (List.mem_cons_self ..)
   have h2:=ih fun y hy=>hp y (qW _ hy)
   rw [yac,List.length_cons]
   omega
 refine ⟨⟨⟨by omega,hb,fun x hx=>?_⟩,hp⟩,hs,hp,hr,by omega⟩
 have h1:=hb.cnt_mem hx
 have h2:=zg5 hp x.1
 have h3:=hp x hx
 exact ⟨(he x hx).2,by omega,by omega,(hr x hx).vOk⟩
end
section
open Go.RowKit Go.BigFrame
end
section
open Go.RowKit Go.RowKit
def yhb (n:Int):Int:=IntKind.i64.wrap (BitVec.ofInt IntKind.i64.bits n&&& BitVec.ofInt IntKind.i64.bits 3).toNat
theorem zmu (n:Int)(t:TypeId)(xo yo:Operand)(P:Program)(w:World):(do eqGuard .and t xo yo (.int .i64 n) (.int .i64 3);binOp .and t (.int .i64 n) (.int .i64 3):Sem Value).run P w= .ok (.int .i64 (yhb n)) w:=by
 rfl
theorem zhu (n:Int):0<=yhb n/\yhb n<=3:=by
 unfold yhb
 have h:(BitVec.ofInt IntKind.i64.bits n&&& BitVec.ofInt IntKind.i64.bits 3).toNat<=3:=by
  rw [BitVec.toNat_and]
  exact qR Nat.and_le_right (by decide)
 generalize (BitVec.ofInt IntKind.i64.bits n&&& BitVec.ofInt IntKind.i64.bits 3).toNat=m at h
 have:m=0∨m=1∨m=2∨m=3:=by omega
 rcases this with rfl|rfl|rfl|rfl<;>decide
theorem zhh {E:Ev}{t:IntKind}{m:Int}{x:Value}(h:HV E (.int t m) x):x= .int t m:=by
 rcases h with ⟨_,h⟩|⟨k,sn,h,_⟩
 ·exact h
 ·cases h
end
section
open Go.RowKit Go.RowKit
theorem zh8 {s:ByteArray}(h1:0<s.size/\s.size<=24)(h2:okS s s.size):ybc s=true:=by
 unfold ybc
 simp only [decide_eq_true_eq]
 exact ⟨h1.1,h1.2,h2⟩
theorem zph {x:UInt8}(h:okB 0 x.toNat=true):ybc (ba [x])=true:=zh8 ⟨by show 0<1;omega,by show 1<=24;omega⟩ fun j hj h2=>by
 have hj:j<1:=hj
 obtain rfl:j=0:=by omega
 exact h
theorem yyz {x y:UInt8}(h:okB 0 x.toNat=true)(h':okB 1 y.toNat=true):ybc (ba [x,y])=true:=zh8 ⟨by show 0<2;omega,by show 2<=24;omega⟩ fun j hj h2=>by
 have hj:j<2:=hj
 have e:j=0∨j=1:=by omega
 rcases e with rfl|rfl
 ·exact h
 ·exact h'
theorem zcl :ybc sAt=true/\ybc sV=true/\ybc sK=true/\ybc sT=true/\ybc sC=true/\ybc sId=true/\ybc (ba [114])=true:=⟨yyz (by decide) (by decide),zph (by decide),zph (by decide),zph (by decide),zph (by decide),yyz (x:=105) (y:=100) (by decide) (by decide),zph (by decide)⟩
theorem zmn {a b c d:Col}(h:ybc a.nm=true/\ybc b.nm=true/\ybc c.nm=true/\ybc d.nm=true)(hk:1<=a.k/\a.k<=4/\1<=b.k/\b.k<=4/\1<=c.k/\c.k<=4/\1<=d.k/\d.k<=4)(hi:yao [a,b,c,d] a.nm=0/\yao [a,b,c,d] b.nm=1/\yao [a,b,c,d] c.nm=2/\yao [a,b,c,d] d.nm=3):okCols [a,b,c,d]:=by
 obtain ⟨h1,h2,h3,h4⟩:=h
 obtain ⟨k1,k2,k3,k4,k5,k6,k7,k8⟩:=hk
 obtain ⟨i1,i2,i3,i4⟩:=hi
 refine ⟨by simp,by simp,fun j co hj=>?_⟩
 match j,hj with
 |0,hj=>cases hj;exact ⟨h1,k1,k2,i1⟩
 |1,hj=>cases hj;exact ⟨h2,k3,k4,i2⟩
 |2,hj=>cases hj;exact ⟨h3,k5,k6,i3⟩
 |3,hj=>cases hj;exact ⟨h4,k7,k8,i4⟩
theorem zc7 :okCols oC:=zmn ⟨zcl.2.2.2.2.2.1,zcl.2.2.2.2.1,zcl.1,zcl.2.1⟩ (by decide) ⟨by kernel_rfl,by kernel_rfl,by kernel_rfl,by kernel_rfl⟩
theorem zmo :okCols cC:=zmn ⟨zcl.2.2.2.2.1,zcl.1,zcl.2.2.2.2.2.2,zcl.2.2.1⟩ (by decide) ⟨by kernel_rfl,by kernel_rfl,by kernel_rfl,by kernel_rfl⟩
section
variable {c d:Nat}{t0 t1 t2:Tab}
end
end
section
open Go.RowKit Go.RowKit Go.BigFrame
theorem zeo {E:Ev}{D:Nat->Prop}{ρ:Nat->Pl}{i b n e r:Nat}(hD:D i)(hp:ρ i=ya8 b 0 e r)(hr:n*e=r)(hn:n<=maxLen):Rv E D ρ (.slice (some ⟨i,0,none⟩) n n) (.slice (some ⟨b,0,none⟩) n n):=by
 have h:=Rv.slice (E:=E) (D:=D) (ρ:=ρ) i 0 n n n hD (qV _) (qV _) hn (by rw [hp];show 0+n*e=r;omega)
 rw [hp] at h
 exact h
theorem yko : ∀ b o,s0.heap.get b=some o->o.wr=false:=fun b o h=>by
 have h:h0.get b=some o:=h
 rw [zec] at h
 split at h
 ·cases h;rfl
 split at h
 ·cases h;rfl
 split at h
 ·cases h;rfl
 split at h
 ·cases h;rfl
 split at h
 ·cases h;rfl
 ·cases h
theorem zk8 {w w1:World}: ∀ k ob,(oPl w w1).snap k=some ob->w1.heap[k]?=some ob:=fun k ob h=>by
 have h:ya2 w w1 k=some ob:=h
 unfold ya2 at h
 split at h
 ·exact h
 ·cases h
theorem zn2 {E:Ev}{D:Nat->Prop}{ρ:Nat->Pl}{w:World}{b:Nat}{cs:List Col}(h:rCol w (some ⟨b,0,none⟩) 4 cs):Bd E D ρ w (ya8 b 0 3 12) false (.cells 56 3 (flat yam cs)):=by
 obtain ⟨b',o',e,hc⟩:=(show Fl w 3 (some ⟨b,0,none⟩) 4 (flat yam cs) from h).2 qF
 cases e
 refine ⟨rfl,fun j v hv=>⟨v,hc j v hv, .flat v ?_⟩⟩
 obtain ⟨x,_,hx⟩:=List.mem_flatMap.1 (qP hv)
 simp [yam] at hx
 rcases hx with rfl|rfl|rfl<;>rfl
theorem simF {E : Ev}{w w1 : World}(ht : Tbs w1){g bo bc : Nat}{A0 A1 A2 : Option Addr}{n0 n1 n2 c0 c1 c2 : Nat}(hblk : ybv w1 g [{ yge yct bo with roA := A0, roN := n0, roC := c0 }, { yge ybo bc with roA := A1, roN := n1, roC := c1 }, { yge yce bo with roA := A2, roN := n2, roC := c2 }])
 (hco:rCol w1 (some ⟨bo,0,none⟩) 4 ycf) (hcc:rCol w1 (some ⟨bc,0,none⟩) 4 ybd) (e0:E 0 (.slice A0 n0 c0) (ya2 w w1)) (e1:E 1 (.slice A1 n1 c1) (ya2 w w1)) (e2:E 2 (.slice A2 n2 c2) (ya2 w w1)):
 ∃ D ρ,Sim E D ρ sF w1/\D 71/\ρ 71=ya8 g 0 4 12/\D 0/\ ∀ b o,sF.heap.get b=some o->o.wr=false:=by
 obtain ⟨ρ0,h0⟩:=ht.sim E
 have lo: ∀ {b:Nat} {cs:List Col},rCol w1 (some ⟨b,0,none⟩) 4 cs->cs≠ []->b<w1.heap.size:=fun {b cs} h hne=>by
  obtain ⟨b',o',e,hc⟩:=(show Fl w1 3 (some ⟨b,0,none⟩) 4 (flat yam cs) from h).2 qF
  cases e
  cases cs with
  |nil=>exact absurd rfl hne
  |cons x l=>exact qX _ _ (hc 0 (.string x.nm) rfl)
 have s1:=zii h0 yko (p:=oPl w w1) zk8
 have s2:=zii s1 yko (p:=oPl w w1) zk8
 have s3:=zii s2 yko (p:=oPl w w1) zk8
 obtain ⟨s4,r4⟩:=zij s3 yko (by decide) (p:=ya8 bo 0 3 12) (b:= .cells 56 3 (flat yam oC)) (zn2 hco) (lo hco (by decide)) rfl
 obtain ⟨s5,r5⟩:=zij s4 r4 (by decide) (p:=ya8 bc 0 3 12) (b:= .cells 56 3 (flat yam cC)) (zn2 hcc) (lo hcc (by decide)) rfl
 have hg2:g<w1.heap.size:=by
  unfold ybv at hblk
  exact (Array.getElem?_eq_some_iff.1 hblk).1
 have cell : ∀ (j : Nat) (v : Value), (flat yl7 [{ yge yct bo with roA := A0, roN := n0, roC := c0 }, { yge ybo bc with roA := A1, roN := n1, roC := c1 }, { yge yce bo with roA := A2, roN := n2, roC := c2 }])[j]? = some v -> w1.cell? ⟨g, j, none⟩ = some v := fun j v hv => by
  unfold ybv at hblk
  rw [World.cell?,hblk]
  simpa using hv
 obtain ⟨s6,r6⟩:=zij s5 r5 (by decide) (p:=ya8 g 0 4 12) (b:=yzc) (by
  refine ⟨rfl,fun j v hv=>?_⟩
  simp only [Nat.zero_add]
  match j,hv with
  |0,hv=>cases hv;exact ⟨_,cell 0 _ rfl, .flat _ rfl⟩
  |1,hv=>cases hv;exact ⟨_,cell 1 _ rfl,zeo (b:=bo) (e:=3) (r:=12) (.inl (.inl (.inr rfl))) rfl rfl (by decide)⟩
  |2,hv=>cases hv;exact ⟨_,cell 2 _ rfl, .flat _ rfl⟩
  |3,hv=>cases hv;exact ⟨_,cell 3 _ rfl,zja (i:=66) (d:=0) qF (.inl (.inl (.inl (.inl (.inl (.inr rfl)))))) rfl e0⟩
  |4,hv=>cases hv;exact ⟨_,cell 4 _ rfl, .flat _ rfl⟩
  |5,hv=>cases hv;exact ⟨_,cell 5 _ rfl,zeo (b:=bc) (e:=3) (r:=12) (.inl (.inr rfl)) rfl rfl (by decide)⟩
  |6,hv=>cases hv;exact ⟨_,cell 6 _ rfl, .flat _ rfl⟩
  |7,hv=>cases hv;exact ⟨_,cell 7 _ rfl,zja (i:=67) (d:=1) qF (.inl (.inl (.inl (.inl (.inr rfl))))) rfl e1⟩
  |8,hv=>cases hv;exact ⟨_,cell 8 _ rfl, .flat _ rfl⟩
  |9,hv=>cases hv;exact ⟨_,cell 9 _ rfl,zeo (b:=bo) (e:=3) (r:=12) (.inl (.inl (.inr rfl))) rfl rfl (by decide)⟩
  |10,hv=>cases hv;exact ⟨_,cell 10 _ rfl, .flat _ rfl⟩
  |11,hv=>cases hv;exact ⟨_,cell 11 _ rfl,zja (i:=68) (d:=2) qF (.inl (.inl (.inl (.inr rfl)))) rfl e2⟩
  |j+12,hv=>cases hv) hg2 rfl
 exact ⟨_,_,s6, .inr rfl,rfl, .inl (.inl (.inl (.inl (.inl (.inl (by show (0:Nat)<66;omega)))))),r6⟩
end
section
open Go.RowKit Go.RowKit
structure WinA where
 d:Nat
 items:List Itm
 ps:List Int
 os:List Int
 args:List Int
 d2:Nat
def Yc2 (s:ASt)(items ps os ar:Value)(d:Nat):List WinA->Option Nat
 | []=>none
 |g::l=>cond (Nat.beq g.d d&&(Nat.ble d 31&&Nat.ble g.d2 31)&&(yak 5 s items (flat yc3 g.items)&&(yak 1 s ps (flat yaw g.ps)&&(yak 1 s os (flat yaw g.os)&&yak 1 s ar (flat yaw g.args))))) (some g.d2) (Yc2 s items ps os ar d l)
def ylg (G:List WinA)(args:List Value)(s:ASt):Option (Value × ASt):=match args with
 | [items,ps,os,ar, .chan (some k)]=>match Yc2 s items ps os ar (k % 1024) G with
  |some d2=>some (.tuple ⟨[chD s.next d2, .int .i64 0]⟩,s.opq)
  |none=>none
 |_=>none
def sP :ByteArray:=ba [112]
def sA :ByteArray:=ba [97]
def sB :ByteArray:=ba [98]
def sD :ByteArray:=ba [100]
def knownN :List ByteArray:= [sC,sV,sAt,⟨#[105,100]⟩,sP,sK,sA,sB,sD,sT,ba [114],nmO,nmC,nmR,ba [110,101,119],ba [107,101,121,115],ba [122,48],ba [122,49],ba [122,50]]
def yk4 (args:List Value)(s:ASt):Option (Value × ASt):=match args with
 | [.string x]=>cond (knownN.any fun y=>eqF (.string y) (.string x)) (some (.bool true,s)) none
 |_=>none
def ylh (args:List Value)(s:ASt):Option (Value × ASt):=match args with
 | [.string x]=>cond ((knownN.any fun y=>eqF (.string y) (.string x))&&([0,2,4,64,65].all fun b=>eqO (s.heap.get b) (h0.get b))) (some (.bool false,s)) none
 |_=>none
end
section
open Go.RowKit Go.RowKit
section
variable {E:Ev}{P:Program}{T:Tbl}{r:Rn}
end
end
end
section
open Go.RowKit
abbrev CellsX :=TypeId × Nat × List Value
def ypo {α β:Type}(B:Nat)(f:α->β):List (Nat × α)->Tr β->Tr β
 | [],T=>T
 |p::l,T=>ypo B f l (T.set B p.1 (some (f p.2)))
theorem zmx {α β:Type}{B:Nat}{f:α->β}: ∀ {l:List (Nat × α)} (_: ∀ p∈l,p.1+1<2 ^ B) {T:Tr β} {i:Nat} {o:β} (_:(ypo B f l T).get i=some o),(∃ p∈l,p.1=i/\f p.2=o)∨T.get i=some o
 | [],_,T,i,o,h=> .inr h
 |p::l,hl,T,i,o,h=>by
  rcases zmx (l:=l) (fun q hq=>hl q (qW _ hq)) (T:=T.set B p.1 (some (f p.2))) h with ⟨q,hq,h1⟩|h
  ·exact .inl ⟨q,qW _ hq,h1⟩
  ·rw [Tr.get_set B T p.1 _ (hl p (List.mem_cons_self ..)) i] at h
   split at h
   ·rename_i e
    exact .inl ⟨p,List.mem_cons_self ..,e.symm,Option.some.inj h⟩
   ·exact .inr h
theorem zjn {α β:Type}{B:Nat}{f:α->β}: ∀ {l:List (Nat × α)} (_: ∀ p∈l,p.1+1<2 ^ B) {T:Tr β} {i:Nat} (_:(∃ p∈l,p.1=i)∨ ∃ o,T.get i=some o),∃ o,(ypo B f l T).get i=some o
 | [],_,T,i,h=>by
  rcases h with ⟨p,hp,_⟩|h
  ·cases hp
  ·exact h
 |p::l,hl,T,i,h=>by
  refine zjn (l:=l) (fun q hq=>hl q (qW _ hq)) ?_
  have hg:=Tr.get_set B T p.1 (some (f p.2)) (hl p (List.mem_cons_self ..)) i
  rcases h with ⟨q,hq,e⟩|⟨o,ho⟩
  ·rcases qY hq with rfl|hq
   ·exact .inr ⟨_,by rw [hg,if_pos e.symm]⟩
   ·exact .inl ⟨q,hq,e⟩
  ·by_cases e:i=p.1
   ·exact .inr ⟨_,by rw [hg,if_pos e]⟩
   ·exact .inr ⟨o,by rw [hg,if_neg e];exact ho⟩
structure Lit where
 ntm:Nat
 next:Nat
 tms:List (Nat × Value)
 blks:List (Nat × CellsX)
def Lit.tl (L:Lit):List (Nat × Value):=(List.range L.ntm).map (fun t=>(t, .chan none))++L.tms
def Lit.tm (L:Lit):Tm:=ypo ycq (fun v=>v) L.tl .leaf
def Lit.small (L:Lit):Bool:=(L.tl.all fun p=>Nat.blt (p.1+1) (2 ^ ycq))&&(L.blks.all fun p=>Nat.blt (p.1+1) (2 ^ yad))
section
variable {E:Ev}{P:Program}{T:Tbl}{r:Rn}
end
structure JoiA where
 left:Bool
 names:List ByteArray
 others:List ByteArray
 items:List Itm
 d:Nat
 cs:List Col
 du:Nat
 cs':List Col
 d2:Nat
def ynx (a b:Bool):Bool:=cond a b (cond b false true)
def yr4 (s:ASt)(names others items co co':Value)(left:Bool)(d du:Nat):List JoiA->Option Nat
 | []=>none
 |g::l=>cond (ynx g.left left&&(Nat.beq g.d d&&(Nat.beq g.du du&&(Nat.ble d 31&&(Nat.ble du 31&&(Nat.ble g.d2 31&&(yak 1 s names (flat ycd g.names)&&(yak 1 s others (flat ycd g.others)&&(yak 5 s items (flat yc3 g.items)&&(yak 3 s co (flat yam g.cs)&&yak 3 s co' (flat yam g.cs'))))))))))) (some g.d2) (yr4 s names others items co co' left d du l)
def yk9 (G:List JoiA)(args:List Value)(s:ASt):Option (Value × ASt):=match args with
 | [.agg ⟨[.int .i64 _, .string _,names,others,items, .slice none 0 0]⟩, .agg ⟨[.string _,co, .slice none 0 0, .chan (some k)]⟩, .agg ⟨[.string _,co', .slice none 0 0, .chan (some k')]⟩, .bool left]=>match yr4 s names others items co co' left (k % 1024) (k' % 1024) G with
  |some d2=>some (.tuple ⟨[chD s.next d2, .int .i64 0]⟩,s.opq)
  |none=>none
 |_=>none
def ylj (L:List (Nat × List Col))(args:List Value)(s:ASt):Option (Value × ASt):=match args with
 | [.agg ⟨[.string _,co, .slice none 0 0, .chan (some k)]⟩]=>cond (Nat.ble (k % 1024) 31&&L.any fun p=>Nat.beq p.1 (k % 1024)&&yak 3 s co (flat yam p.2)) (some (.int .i64 0,s)) none
 |_=>none
def ypl :ByteArray:=ba [110,101,119]
def nsJ (c:Nat):List ByteArray:=match c with
 |0=> [sC]
 |1=> [sAt]
 |_=> [sV]
def osJ (c:Nat):List ByteArray:=match c with
 |0=> [sC]
 |1=> [sAt]
 |_=> [sK]
def niJ (c:Nat):Int:=match c with
 |0=>1
 |1=>2
 |_=>3
def oiJ (c:Nat):Int:=match c with
 |0=>0
 |1=>1
 |_=>3
def Yc3 (c:Nat):List Col:=match c with
 |0=> [⟨sC,3,false⟩]
 |1=> [⟨sAt,4,false⟩]
 |_=> [⟨sK,2,false⟩]
end
section
section
open Go.RowKit Go.BigFrame
end
section
open Go.RowKit
end
section
open Go.RowKit Go.BigFrame
end
section
open Go.RowKit Go.BigFrame
end
section
open Go.RowKit
theorem znz : ∀ {l:Tab},Asc l↔l.Pairwise fun x y=>yag x.1 y.1<0
 | []=>by simp [Asc]
 |x::l=>by rw [Asc,List.pairwise_cons,znz]
section
variable {m:Nat}{is os:List Int}{t:Tab}
end
end
end
section
open Go.RowKit
def ycb (r:List Val):Bool:=r.any fun v=>ya0 v zV==0
def ydc (r:List Val)(n:Int):Tab->Tab
 | []=> [(r,n)]
 |x::l=>if yag x.1 r=0 then (x.1,x.2+n)::l else x::ydc r n l
def yor (os ps:List Int)(k:List Val)(l:Tab)(x:List Val × Int):Tab:=if yag (pkV os x.1) k=0 then ydc (pkV ps x.1) x.2 l else l
def yff (os ps:List Int)(k:List Val)(u:Tab):Tab:=u.foldl (yor os ps k) []
theorem zi5 (os ps:List Int)(k:List Val)(u:Tab)(x:List Val × Int):yff os ps k (u++ [x])=yor os ps k (yff os ps k u) x:=by unfold yff;rw [List.foldl_append];rfl
def ycl (ns os ps:List Int)(u:Tab)(r:List Val):Tab:=if ycb (pkV ns r)=true then [] else yff os ps (pkV ns r) u
def yit (left:Bool)(m:Nat):Tab->Tab
 | []=>if left=true then [(List.replicate m zV,1)] else []
 |y::l=>y::l
def yyt (left:Bool)(ns os ps:List Int)(u:Tab)(x:List Val × Int):Tab:=(yit left ps.length (ycl ns os ps u x.1)).map fun y=>(x.1++y.1,x.2*y.2)
def ybe (left:Bool)(ns os ps:List Int)(t u:Tab):Tab:=t.flatMap (yyt left ns os ps u)
def ygu (left:Bool)(ns os ps:List Int)(t u:Tab):Tab:=ybp (ybe left ns os ps t u)
theorem Bag.filter {t:Tab}(h:Bag t)(p:List Val × Int->Bool):Bag (t.filter p):=
 ⟨znz.2 ((znz.1 h.1).filter _),fun x hx=>h.2 x (List.mem_filter.1 hx).1⟩
section
variable {t u:Tab}{n o:Int}
end
section
variable {t u:Tab}{ns os:List Int}
end
def yaf (a:Knd)(need:Int):Bool:=a.k==need || a.k==0
def ydn (a b:Knd):Int × Bool:=if a.k=0 then (b.k,true) else (a.k,yaf b a.k)
def ynv :Knd:=⟨0,false⟩
def arN (op:Int):Nat:=if op=0∨op=1 then 0 else if op=2∨op=3∨op=16∨op=19∨op=20 then 1 else if op=17 then 3 else 2
def ylr (n:Nod)(l:List Knd):Knd × Bool:=
 let a:=l.getD 0 ynv
 let b:=l.getD 1 ynv
 let c:=l.getD 2 ynv
 let nu:=l.any Knd.nl
 if n.op=0 then (⟨n.vk,n.vk==0⟩,true)
 else if n.op=2 then (⟨1,nu⟩,yaf a 1)
 else if n.op=3 then (⟨2,nu⟩,yaf a 2)
 else if n.op=4 then (if a.k=4 then (⟨4,true⟩,yaf b 2) else (⟨2,true⟩,yaf a 2&&yaf b 2))
 else if n.op=5 then (if b.k=4 then (⟨2,nu⟩,yaf a 4) else if a.k=4 then (⟨4,true⟩,yaf b 2) else (⟨2,true⟩,yaf a 2&&yaf b 2))
 else if n.op=6∨n.op=7∨n.op=8 then (⟨2,true⟩,yaf a 2&&yaf b 2)
 else if n.op=9 then (⟨3,true⟩,yaf a 3&&yaf b 3)
 else if n.op=10∨n.op=11∨n.op=12∨n.op=13 then (⟨1,nu⟩,(ydn a b).2)
 else if n.op=14∨n.op=15 then (⟨1,nu⟩,yaf a 1&&yaf b 1)
 else if n.op=16 then (⟨1,false⟩,true)
 else if n.op=17 then (⟨(ydn b c).1,b.nl || c.nl⟩,(ydn b c).2&&yaf a 1)
 else if n.op=18 then (⟨(ydn a b).1,a.nl&&b.nl⟩,(ydn a b).2)
 else if n.op=19 then (⟨2,nu⟩,yaf a 3)
 else (⟨2,nu⟩,yaf a 4)
def yb4 (cs:List Col)(nm:ByteArray):Col:=cs.getD (yao cs nm).toNat ⟨⟨#[]⟩,0,false⟩
def ybg (cs:List Col)(n:Nod)(l:List Knd):Option Knd:=
 if n.op=1 then (if yao cs n.nm<0 then none else some ⟨(yb4 cs n.nm).k,(yb4 cs n.nm).nl⟩)
 else if (ylr n l).2=true then some (ylr n l).1 else none
def yeo (cs:List Col)(st:List Knd)(n:Nod):Option (List Knd):=
 if st.length<arN n.op then none else (ybg cs n (st.drop (st.length - arN n.op))).map fun k=>st.take (st.length - arN n.op)++ [k]
def yb5 (cs:List Col):List Nod->List Knd->Option (List Knd)
 | [],st=>some st
 |n::p,st=>(yeo cs st n).bind (yb5 cs p)
theorem zbo (cs:List Col): ∀ (p q:List Nod) (st:List Knd),yb5 cs (p++q) st=(yb5 cs p st).bind (yb5 cs q)
 | [],q,st=>rfl
 |n::p,q,st=>by
  rw [List.cons_append,yb5,yb5]
  cases yeo cs st n with
  |none=>rfl
  |some st'=>exact zbo cs p q st'
def zoneL :List (ByteArray × Int × List Shf):= [(⟨#[122,48]⟩,60,[]),(⟨#[122,49]⟩,-300,[⟨145000,-240⟩,⟨147000,-300⟩]),(⟨#[122,50]⟩,120,[⟨145450,0⟩])]
def yfv (nm:ByteArray)(z:ByteArray × Int × List Shf):Bool:=z.1.toList==nm.toList
structure okN (cs:List Col)(n:Nod):Prop where
 ar:n.ar=0
 lo:0<=n.op
 hi:n.op<=20
 cst:n.op=0->n.nm=⟨#[]⟩/\yab ⟨n.vk,n.vm,n.vs⟩=true
 zero:n.op≠0->n.vk=0/\n.vm=0/\n.vs=⟨#[]⟩
 col:n.op=1->0<=yao cs n.nm
 day:n.op=20-> ∃ z∈zoneL,n.nm=z.1
 bare:n.op≠0->n.op≠1->n.op≠20->n.nm=⟨#[]⟩
def ycx (cs:List Col)(p:List Nod)(t:Knd):Prop:= ∀ st,yb5 cs p st=some (st++ [t])
def okE (cs:List Col)(kind:Int)(N:Nat)(p:List Nod):Prop:=p.length<=N/\(∀ n∈p,okN cs n)/\ ∃ t:Knd,(t.k=kind∨t.k=0)/\ycx cs p t
theorem okE.mono {cs:List Col}{kind:Int}{N M:Nat}{p:List Nod}(h:okE cs kind N p)(hm:N<=M):okE cs kind M p:=⟨qR h.1 hm,h.2⟩
section
variable {cs:List Col}{p q r:List Nod}{n:Nod}{a b c t:Knd}
theorem zfp {st l:List Knd}(h:l.length=arN n.op)(ht:ybg cs n l=some t):yeo cs (st++l) n=some (st++ [t]):=by
 unfold yeo
 have e:(st++l).length - arN n.op=st.length:=by rw [List.length_append];omega
 rw [if_neg (by rw [List.length_append];omega),e,List.drop_left,List.take_left,ht]
 rfl
theorem blk0 (h0:arN n.op=0)(ht:ybg cs n []=some t):ycx cs [n] t:=fun st=>by
 have:=zfp (st:=st) (l:= []) (by rw [h0];rfl) ht
 rw [List.append_nil] at this
 rw [yb5,this];rfl
theorem blk1 (hp:ycx cs p a)(h1:arN n.op=1)(ht:ybg cs n [a]=some t):ycx cs (p++ [n]) t:=fun st=>by
 rw [zbo,hp st]
 show yb5 cs [n] (st++ [a])=_
 rw [yb5,zfp (l:= [a]) (by rw [h1];rfl) ht];rfl
theorem Yd5 (hp:ycx cs p a)(hq:ycx cs q b)(h2:arN n.op=2)(ht:ybg cs n [a,b]=some t):ycx cs (p++(q++ [n])) t:=fun st=>by
 rw [zbo,hp st]
 show yb5 cs (q++ [n]) (st++ [a])=_
 rw [zbo,hq]
 show yb5 cs [n] (st++ [a]++ [b])=_
 rw [yb5,List.append_assoc,zfp (l:= [a]++ [b]) (by rw [h2];rfl) ht];rfl
theorem blk3 (hp:ycx cs p a)(hq:ycx cs q b)(hr:ycx cs r c)(h3:arN n.op=3)(ht:ybg cs n [a,b,c]=some t):ycx cs (p++(q++(r++ [n]))) t:=fun st=>by
 rw [zbo,hp st]
 show yb5 cs (q++(r++ [n])) (st++ [a])=_
 rw [zbo,hq]
 show yb5 cs (r++ [n]) (st++ [a]++ [b])=_
 rw [zbo,hr]
 show yb5 cs [n] (st++ [a]++ [b]++ [c])=_
 rw [yb5,List.append_assoc,List.append_assoc,zfp (l:= [a]++([b]++ [c])) (by rw [h3];rfl) ht];rfl
theorem zdk : ∀ {p:List Nod} {st ts:List Knd} {k:Nat} {x:Nod} (_:yb5 cs p st=some ts) (_:p[k]?=some x),∃ s1 s2,yb5 cs (p.take k) st=some s1/\yeo cs s1 x=some s2/\yb5 cs (p.take (k+1)) st=some s2
 | [],st,ts,k,x,h,hx=>by simp at hx
 |y::p,st,ts,0,x,h,hx=>by
  simp at hx
  subst hx
  rw [yb5] at h
  cases hs:yeo cs st y with
  |none=>rw [hs] at h;cases h
  |some s2=>exact ⟨st,s2,rfl,hs,by simp [yb5,hs]⟩
 |y::p,st,ts,k+1,x,h,hx=>by
  rw [yb5] at h
  cases hs:yeo cs st y with
  |none=>rw [hs] at h;cases h
  |some s0=>
   rw [hs] at h
   obtain ⟨s1,s2,h1,h2,h3⟩:=zdk (p:=p) (st:=s0) (k:=k) h (by simpa using hx)
   refine ⟨s1,s2,?_,h2,?_⟩
   ·rw [List.take_succ_cons,yb5,hs];exact h1
   ·rw [List.take_succ_cons,yb5,hs];exact h3
theorem zdu : ∀ {p:List Nod} {st ts:List Knd} (_:yb5 cs p st=some ts),ts.length<=st.length+p.length
 | [],st,ts,h=>by cases h;simp
 |y::p,st,ts,h=>by
  rw [yb5] at h
  cases hs:yeo cs st y with
  |none=>rw [hs] at h;cases h
  |some s0=>
   rw [hs] at h
   have:=zdu (p:=p) (st:=s0) h
   have h0:s0.length<=st.length+1:=by
    unfold yeo at hs
    split at hs
    ·cases hs
    ·obtain ⟨k,_,rfl⟩:=Option.map_eq_some_iff.1 hs
     rw [List.length_append,List.length_take,List.length_singleton];omega
   rw [List.length_cons];omega
end
def yb3 (b:Bool):Val:=if b=true then ⟨1,1,⟨#[]⟩⟩ else ⟨1,0,⟨#[]⟩⟩
def ydr (n:Int):Val:=if n<0∨575999999<n then zV else ⟨4,n,⟨#[]⟩⟩
def ybz (v:Val):Int:=if v.k=1/\yab v=true then v.m else -1
def yej (a b:Val)(d:Int):Val:=if ybz a=d∨ybz b=d then yb3 (d==1) else if ybz a<0∨ybz b<0 then zV else yb3 (d==0)
def yfm (a b:Int):Int:=if a.tmod b≠0/\(decide (a.tmod b<0)≠decide (b<0)) then a.tdiv b - 1 else a.tdiv b
def yfn (a b:Int):Int:=if a.tmod b≠0/\(decide (a.tmod b<0)≠decide (b<0)) then a.tmod b+b else a.tmod b
def yhd (op:Int)(a b:Val):Val:=
 if op=4 then (if a.k=4 then ydr (a.m+b.m) else ya5 (a.m+b.m))
 else if op=5 then (if a.k=4/\b.k=2 then ydr (a.m - b.m) else ya5 (a.m - b.m))
 else if op=6 then ya5 (a.m*b.m)
 else if op=7 then (if b.m=0 then zV else ⟨2,yfm a.m b.m,⟨#[]⟩⟩)
 else (if b.m=0 then zV else ⟨2,yfn a.m b.m,⟨#[]⟩⟩)
def ygy (t off:Int):Int:=if t+off<0 then -1 else (t+off) / 1440
def yd0 (t:Int):List Shf->Int->Int->Int
 | [],best,off=>max best (ygy t off)
 |s::l,best,off=>if t<s.pos then max best (ygy t off) else yd0 t l (max best (ygy (s.pos - 1) off)) s.off
def yis (nm:ByteArray)(t:Int):Int:=match zoneL.find? (yfv nm) with
 |some z=>yd0 t z.2.2 0 z.2.1
 |none=>0
def ybm (n:Nod)(l:List Val):Val:=
 let a:=l.getD 0 zV
 let b:=l.getD 1 zV
 if n.op=2 then yb3 (ybz a==0)
 else if n.op=3 then ya5 (0 - a.m)
 else if n.op=9 then (if (a.s++b.s).size<=64 then ⟨3,0,a.s++b.s⟩ else zV)
 else if n.op=10 then yb3 (ya0 a b==0)
 else if n.op=11 then yb3 (!(ya0 a b==0))
 else if n.op=12 then yb3 (decide (ya0 a b<0))
 else if n.op=13 then yb3 (decide (ya0 a b<=0))
 else if n.op=19 then ⟨2,a.s.size,⟨#[]⟩⟩
 else if n.op=20 then ⟨2,yis n.nm a.m,⟨#[]⟩⟩
 else yhd n.op a b
def yen (n:Nod)(l:List Val):Option Val:=
 let a:=l.getD 0 zV
 let b:=l.getD 1 zV
 let c:=l.getD 2 zV
 if n.op=0 then some ⟨n.vk,n.vm,n.vs⟩
 else if n.op=14 then some (yej a b 0)
 else if n.op=15 then some (yej a b 1)
 else if n.op=16 then some (yb3 (a.k==0))
 else if n.op=17 then some (if ybz a=1 then b else c)
 else if n.op=18 then some (if a.k=0 then b else a)
 else none
def yb6 (cs:List Col)(r:List Val)(nm:ByteArray):Val:=r.getD (yao cs nm).toNat zV
def yf8 (cs:List Col)(r:List Val)(n:Nod)(l:List Val):Val:=
 if n.op=1 then yb6 cs r n.nm else match yen n l with
  |some v=>v
  |none=>if ycb l=true then zV else ybm n l
def ygj (cs:List Col)(r:List Val)(st:List Val)(n:Nod):List Val:=st.take (st.length - arN n.op)++ [yf8 cs r n (st.drop (st.length - arN n.op))]
def yez (cs:List Col)(r:List Val)(p:List Nod)(st:List Val):List Val:=p.foldl (ygj cs r) st
def ycg (cs:List Col)(r:List Val)(p:List Nod):Val:=(yez cs r p []).getD 0 zV
theorem zk6 (cs:List Col)(r:List Val)(p q:List Nod)(st:List Val):yez cs r (p++q) st=yez cs r q (yez cs r p st):=by unfold yez;rw [List.foldl_append]
def okK (t:Knd)(v:Val):Prop:=yab v=true/\((v.k=0/\t.nl=true)∨(v.k≠0/\v.k=t.k))
def okSt :List Knd->List Val->Prop
 | [],[]=>True
 |t::ts,v::vs=>okK t v/\okSt ts vs
 |_,_=>False
theorem okSt.len : ∀ {ts:List Knd} {vs:List Val} (_:okSt ts vs),ts.length=vs.length
 | [],[],_=>rfl
 |_::_,_::_,h=>by rw [List.length_cons,List.length_cons,okSt.len h.2]
theorem okSt.take : ∀ {ts:List Knd} {vs:List Val} (k:Nat) (_:okSt ts vs),okSt (ts.take k) (vs.take k)
 | [],[],k,_=>by simp [okSt]
 |t::ts,v::vs,0,_=>trivial
 |t::ts,v::vs,k+1,h=>⟨h.1,okSt.take k h.2⟩
theorem okSt.drop : ∀ {ts:List Knd} {vs:List Val} (k:Nat) (_:okSt ts vs),okSt (ts.drop k) (vs.drop k)
 | [],[],k,_=>by simp [okSt]
 |t::ts,v::vs,0,h=>h
 |t::ts,v::vs,k+1,h=>okSt.drop k h.2
theorem okSt.snoc : ∀ {ts:List Knd} {vs:List Val} {t:Knd} {v:Val} (_:okSt ts vs) (_:okK t v),okSt (ts++ [t]) (vs++ [v])
 | [],[],t,v,_,h=>⟨h,trivial⟩
 |_::_,_::_,t,v,h,h2=>⟨h.1,okSt.snoc h.2 h2⟩
theorem zdh (x b:Bool):okK ⟨1,x⟩ (yb3 b):=by
 cases b<;>simp [okK,yb3,yab,ByteArray.toList_eq]
theorem zcm {t:Knd}(h:t.nl=true):okK t zV:=⟨zes, .inl ⟨rfl,h⟩⟩
theorem zib (n:Int):okK ⟨2,true⟩ (ya5 n):=by
 unfold ya5
 split
 ·exact zcm rfl
 ·rename_i h
  refine ⟨?_, .inr ⟨by simp,rfl⟩⟩
  simp [yab,ByteArray.toList_eq];omega
theorem ze5 {n:Int}{x:Bool}(h1: -1073741824<=n)(h2:n<=1073741824):okK ⟨2,x⟩ ⟨2,n,⟨#[]⟩⟩:=by
 refine ⟨?_, .inr ⟨by simp,rfl⟩⟩
 simp [yab,ByteArray.toList_eq];omega
theorem zmp (n:Int):okK ⟨4,true⟩ (ydr n):=by
 unfold ydr
 split
 ·exact zcm rfl
 ·rename_i h
  refine ⟨?_, .inr ⟨by simp,rfl⟩⟩
  simp [yab,ByteArray.toList_eq];omega
theorem zpn {v:Val}(h:yab v=true)(h0:v.k=0):v=zV:=by
 rcases za8 h with rfl|⟨m,rfl,_⟩|⟨m,rfl,_⟩|⟨s,rfl,_⟩|⟨m,rfl,_⟩
 ·rfl
 all_goals exact absurd h0 qH
theorem zpl (v:Val)(l:List Val):ycb (v::l)=(ya0 v zV==0 || ycb l):=rfl
theorem zpm {v:Val}:(ya0 v zV==0)=true↔v=zV:=by simp [zct]
theorem zk2 : ∀ {ts:List Knd} {vs:List Val} (_:okSt ts vs) (_:ycb vs=true),ts.any Knd.nl=true
 | [],[],_,h=>by cases h
 |t::ts,v::vs,h,hn=>by
  rw [zpl,Bool.or_eq_true] at hn
  rw [List.any_cons,Bool.or_eq_true]
  rcases hn with hn|hn
  ·have e:=zpm.1 hn
   subst e
   rcases h.1.2 with h2|h2
   ·exact .inl h2.2
   ·exact absurd rfl h2.1
  ·exact .inr (zk2 h.2 hn)
theorem yqn {t:Knd}{v:Val}(h:okK t v)(hn:(ya0 v zV==0)=false):v.k=t.k/\t.k≠0:=by
 rcases h.2 with h2|h2
 ·have:=zpn h.1 h2.1
  rw [zpm.2 this] at hn
  cases hn
 ·exact ⟨h2.2,by rw [<-h2.2];exact h2.1⟩
theorem zdc {t:Knd}{v:Val}{k:Int}(h:okK t v)(hn:(ya0 v zV==0)=false)(hf:yaf t k=true):v.k=k:=by
 obtain ⟨h1,h2⟩:=yqn h hn
 unfold yaf at hf
 simp only [Bool.or_eq_true,beq_iff_eq] at hf
 rcases hf with hf|hf
 ·rw [h1,hf]
 ·exact absurd hf h2
theorem zld {v:Val}(h:yab v=true)(hk:v.k=2): -1073741824<=v.m/\v.m<=1073741824:=zch h
theorem zfq {v:Val}(h:yab v=true)(hk:v.k=4):0<=v.m/\v.m<=575999999:=by
 rcases za8 h with rfl|⟨m,rfl,_⟩|⟨m,rfl,_⟩|⟨s,rfl,_⟩|⟨m,rfl,h1⟩
 all_goals first |exact h1|exact absurd hk qH
theorem ylt {v:Val}(h:yab v=true)(hk:v.k=3):v.s.size<=64:=by
 rcases za8 h with rfl|⟨m,rfl,_⟩|⟨m,rfl,_⟩|⟨s,rfl,h1⟩|⟨m,rfl,_⟩
 all_goals first |exact h1|exact absurd hk qH
theorem zf3 {t:Int}(h0:0<=t)(h1:t<=575999999): ∀ (l:List Shf) (best off:Int) (_:0<=best/\best<=400000) (_:off<=840) (_: ∀ s∈l,s.off<=840/\s.pos<=575999999),0<=yd0 t l best off/\yd0 t l best off<=400000
 | [],best,off,hb,ho,_=>by
  unfold yd0 ygy
  split<;>omega
 |s::l,best,off,hb,ho,hs=>by
  obtain ⟨s1,s2⟩:=hs s (List.mem_cons_self ..)
  unfold yd0
  split
  ·unfold ygy
   split<;>omega
  ·refine zf3 h0 h1 l _ _ ?_ s1 fun x hx=>hs x (qW _ hx)
   unfold ygy
   split<;>omega
theorem zkg (nm:ByteArray){t:Int}(h0:0<=t)(h1:t<=575999999):0<=yis nm t/\yis nm t<=400000:=by
 unfold yis
 split
 ·rename_i z hz
  have hm:=List.mem_of_find?_eq_some hz
  have: ∀ z∈zoneL,z.2.1<=840/\ ∀ s∈z.2.2,s.off<=840/\s.pos<=575999999:=by
   intro z hz
   simp only [zoneL,List.mem_cons,List.not_mem_nil,or_false] at hz
   rcases hz with rfl|rfl|rfl<;>refine ⟨by decide,fun s hs=>?_⟩<;>simp only [List.mem_cons,List.not_mem_nil,or_false] at hs
   ·rcases hs with rfl|rfl<;>decide
   ·subst hs;decide
  obtain ⟨k1,k2⟩:=this z hm
  exact zf3 h0 h1 _ _ _ qF k1 k2
 ·omega
theorem yp2 (a b:Int):(a.tdiv b).natAbs<=a.natAbs:=by rw [Int.natAbs_tdiv];exact Nat.div_le_self _ _
theorem znh {a b:Int}(h1: -1073741824<=a)(h2:a<=1073741824)(hb:b≠0): -1073741824<=yfm a b/\yfm a b<=1073741824:=by
 have h:=yp2 a b
 unfold yfm
 split
 ·rename_i hc
  have hb2:2<=b.natAbs:=by
   rcases Nat.lt_or_ge b.natAbs 2 with h3|h3
   ·have:b=1∨b= -1:=by omega
    rcases this with rfl|rfl
    ·exact absurd qH hc.1
    ·exact absurd qH hc.1
   ·exact h3
  have h4:(a.tdiv b).natAbs<=536870912:=by
   rw [Int.natAbs_tdiv]
   exact qR (Nat.div_le_div_left hb2 qF) qF
  omega
 ·omega
theorem zni {a b:Int}(h1: -1073741824<=b)(h2:b<=1073741824)(hb:b≠0): -1073741824<=yfn a b/\yfn a b<=1073741824:=by
 have h:(a.tmod b).natAbs<b.natAbs:=by rw [Int.natAbs_tmod];exact Nat.mod_lt _ qF
 unfold yfn
 split
 ·rename_i hc
  have h3:=hc.2
  by_cases k1:a.tmod b<0<;>by_cases k2:b<0<;>simp [k1,k2] at h3<;>omega
 ·omega
theorem zm0 {t:Knd}{v:Val}(h:okK t v)(hf:yaf t 1=true)(ht:ybz v<0):t.nl=true:=by
 rcases h.2 with h2|h2
 ·exact h2.2
 ·have hk:v.k=1:=by
   unfold yaf at hf
   simp only [Bool.or_eq_true,beq_iff_eq] at hf
   rcases hf with hf|hf
   ·omega
   ·exact absurd (h2.2.trans hf) h2.1
  unfold ybz at ht
  rw [if_pos ⟨hk,h.1⟩] at ht
  rcases za8 h.1 with rfl|⟨m,rfl,hm⟩|⟨m,rfl,_⟩|⟨s,rfl,_⟩|⟨m,rfl,_⟩
  ·exact absurd hk qH
  ·simp at ht;omega
  ·exact absurd hk qH
  ·exact absurd hk qH
  ·exact absurd hk qH
theorem zpq {a b:Knd}{u v:Val}{d:Int}(ha:okK a u)(hb:okK b v)(fa:yaf a 1=true)(fb:yaf b 1=true):okK ⟨1,a.nl || b.nl⟩ (yej u v d):=by
 unfold yej
 split
 ·exact zdh _ _
 ·split
  ·rename_i h
   refine zcm ?_
   rcases h with h|h
   ·rw [zm0 ha fa h];rfl
   ·rw [zm0 hb fb h,Bool.or_true]
  ·exact zdh _ _
theorem zc3 {α:Type}{p:α->Bool}{l:List α}(h:0<=yd8 p l): ∃ (j:Nat) (x:α),yd8 p l=j/\l[j]?=some x/\p x=true:=by
 unfold yd8 at h ⊢
 cases hf:l.findIdx? p with
 |none=>rw [hf] at h;simp at h
 |some j=>
  rw [List.findIdx?_eq_some_iff_getElem] at hf
  obtain ⟨h1,h2,_⟩:=hf
  exact ⟨j,_,rfl,List.getElem?_eq_getElem h1,h2⟩
theorem okSt.one {ts:List Knd}{vs:List Val}(h:okSt ts vs)(hl:ts.length=1): ∃ a u,ts= [a]/\vs= [u]/\okK a u:=by
 match ts,vs,hl,h with
 | [a],[u],_,h=>exact ⟨a,u,rfl,rfl,h.1⟩
theorem okSt.two {ts:List Knd}{vs:List Val}(h:okSt ts vs)(hl:ts.length=2): ∃ a b u v,ts= [a,b]/\vs= [u,v]/\okK a u/\okK b v:=by
 match ts,vs,hl,h with
 | [a,b],[u,v],_,h=>exact ⟨a,b,u,v,rfl,rfl,h.1,h.2.1⟩
theorem okSt.three {ts:List Knd}{vs:List Val}(h:okSt ts vs)(hl:ts.length=3): ∃ a b c u v x,ts= [a,b,c]/\vs= [u,v,x]/\okK a u/\okK b v/\okK c x:=by
 match ts,vs,hl,h with
 | [a,b,c],[u,v,x],_,h=>exact ⟨a,b,c,u,v,x,rfl,rfl,h.1,h.2.1,h.2.2.1⟩
theorem zil {a:Knd}{u:Val}{k:Int}{x:Val}(h:okK a u)(hx:(ya0 u zV==0)=false->okK ⟨k,a.nl || false⟩ x):okK ⟨k,a.nl || false⟩ (if ycb [u]=true then zV else x):=by
 cases hn:ycb [u]
 ·rw [if_neg qH]
  exact hx (by have:(ya0 u zV==0 || false)=false:=hn;rwa [Bool.or_false] at this)
 ·rw [if_pos rfl]
  exact zcm (zk2 (ts:= [a]) (vs:= [u]) ⟨h,trivial⟩ hn)
theorem zbz {a b:Knd}{u v:Val}{k:Int}{y:Bool}{x:Val}(ha:okK a u)(hb:okK b v)(hy:(a.nl || (b.nl || false))=true->y=true)(hx:(ya0 u zV==0)=false->(ya0 v zV==0)=false->okK ⟨k,y⟩ x):okK ⟨k,y⟩ (if ycb [u,v]=true then zV else x):=by
 cases hn:ycb [u,v]
 ·rw [if_neg qH]
  have h:(ya0 u zV==0 || (ya0 v zV==0 || false))=false:=hn
  rw [Bool.or_eq_false_iff,Bool.or_false] at h
  exact hx h.1 h.2
 ·rw [if_pos rfl]
  exact zcm (hy (zk2 (ts:= [a,b]) (vs:= [u,v]) ⟨ha,hb,trivial⟩ hn))
theorem zlz {a b:Knd}{u:Val}{y:Bool}(hf:(ydn a b).2=true)(h:okK a u∨okK b u)(hy:(okK a u->u.k=0->y=true)/\(okK b u->u.k=0->y=true)):okK ⟨(ydn a b).1,y⟩ u:=by
 unfold ydn at hf ⊢
 by_cases ha:a.k=0
 ·rw [if_pos ha]
  rcases h with h|h
  ·refine ⟨h.1, .inl ?_⟩
   rcases h.2 with h2|h2
   ·exact ⟨h2.1,hy.1 h h2.1⟩
   ·exact absurd (h2.2.trans ha) h2.1
  ·refine ⟨h.1,?_⟩
   rcases h.2 with h2|h2
   ·exact .inl ⟨h2.1,hy.2 h h2.1⟩
   ·exact .inr h2
 ·rw [if_neg ha] at hf ⊢
  rcases h with h|h
  ·refine ⟨h.1,?_⟩
   rcases h.2 with h2|h2
   ·exact .inl ⟨h2.1,hy.1 h h2.1⟩
   ·exact .inr h2
  ·refine ⟨h.1,?_⟩
   rcases h.2 with h2|h2
   ·exact .inl ⟨h2.1,hy.2 h h2.1⟩
   ·unfold yaf at hf
    simp only [Bool.or_eq_true,beq_iff_eq] at hf
    rcases hf with hf|hf
    ·exact .inr ⟨h2.1,h2.2.trans hf⟩
    ·exact absurd (h2.2.trans hf) h2.1
theorem zk1 {a:Knd}{u:Val}(h:okK a u)(h0:u.k=0):a.nl=true:=by
 rcases h.2 with h2|h2
 ·exact h2.2
 ·exact absurd h0 h2.1
theorem zeq {cs:List Col}{n:Nod}{ts:List Knd}{t:Knd}(h1:n.op≠1)(ht:ybg cs n ts=some t):(ylr n ts).2=true/\t=(ylr n ts).1:=by
 unfold ybg at ht
 rw [if_neg h1] at ht
 split at ht
 ·rename_i h;exact ⟨h,(Option.some.inj ht).symm⟩
 ·cases ht
theorem yo5 {cs:List Col}{r:List Val}(hr:okRow cs r){n:Nod}{ts:List Knd}{vs:List Val}{t:Knd}(h1:n.op=1)(ht:ybg cs n ts=some t):okK t (yf8 cs r n vs):=by
 unfold ybg at ht
 rw [if_pos h1] at ht
 unfold yf8
 rw [if_pos h1]
 split at ht
 ·cases ht
 ·rename_i h
  cases ht
  obtain ⟨j,c,e,hc,_⟩:=zc3 (p:=yd1 n.nm) (l:=cs) (show 0<=yao cs n.nm by omega)
  have e:yao cs n.nm=j:=e
  have hj:j<r.length:=by have:=(qO hc).1;rw [hr.1];exact this
  have hv:=hr.2 j _ c (List.getElem?_eq_getElem hj) hc
  have e1:yb6 cs r n.nm=r[j]:=by
   unfold yb6
   rw [e,Int.toNat_natCast,List.getD_eq_getElem?_getD,List.getElem?_eq_getElem hj];rfl
  have e2:yb4 cs n.nm=c:=by
   unfold yb4
   rw [e,Int.toNat_natCast,List.getD_eq_getElem?_getD,hc];rfl
  rw [e1,e2]
  exact hv
theorem ynk {a b:Bool}(h:(a&&b)=true):a=true/\b=true:=by simpa using h
theorem ykb {cs:List Col}{r:List Val}(hr:okRow cs r){n:Nod}{ts:List Knd}{vs:List Val}{t:Knd}(hn:okN cs n)(hl:ts.length=arN n.op)(hs:okSt ts vs)(ht:ybg cs n ts=some t):okK t (yf8 cs r n vs):=by
 by_cases h1:n.op=1
 ·exact yo5 hr h1 ht
 obtain ⟨hf,rfl⟩:=zeq h1 ht
 have hop:n.op=0∨n.op=2∨n.op=3∨n.op=4∨n.op=5∨n.op=6∨n.op=7∨n.op=8∨n.op=9∨n.op=10∨n.op=11∨n.op=12∨n.op=13∨n.op=14∨n.op=15∨n.op=16∨n.op=17∨n.op=18∨n.op=19∨n.op=20:=by
  have:=hn.lo;have:=hn.hi;omega
 have hcst:=hn.cst
 clear hn ht
 obtain ⟨op,vk,vm,vs',nm,ar⟩:=n
 simp only at hop h1 hcst hl
 rcases hop with rfl|rfl|rfl|rfl|rfl|rfl|rfl|rfl|rfl|rfl|rfl|rfl|rfl|rfl|rfl|rfl|rfl|rfl|rfl|rfl
 ·-- a constant
  have hv:=(hcst rfl).2
  show okK ⟨vk,vk==0⟩ ⟨vk,vm,vs'⟩
  refine ⟨hv,?_⟩
  by_cases h0:vk=0
  ·exact .inl ⟨h0,by simp [h0]⟩
  ·exact .inr ⟨h0,rfl⟩
 ·obtain ⟨a,u,rfl,rfl,ha⟩:=hs.one hl
  exact zil ha fun _=>zdh _ _
 ·obtain ⟨a,u,rfl,rfl,ha⟩:=hs.one hl
  refine zil (x:=ya5 (0 - u.m)) ha fun h=>?_
  have hk:=zdc (k:=2) ha h hf
  obtain ⟨q1,q2⟩:=zld ha.1 hk
  rw [zkx qF qF]
  exact ze5 qF qF
 ·obtain ⟨a,b,u,v,rfl,rfl,ha,hb⟩:=hs.two hl
  have hf:(if a.k=4 then ((⟨4,true⟩:Knd),yaf b 2) else (⟨2,true⟩,yaf a 2&&yaf b 2)).2=true:=hf
  show okK (if a.k=4 then ((⟨4,true⟩:Knd),yaf b 2) else (⟨2,true⟩,yaf a 2&&yaf b 2)).1 (if ycb [u,v]=true then zV else if u.k=4 then ydr (u.m+v.m) else ya5 (u.m+v.m))
  by_cases h4:a.k=4
  ·rw [if_pos h4]
   refine zbz ha hb (fun _=>rfl) fun hu hv=>?_
   rw [if_pos (by rw [(yqn ha hu).1,h4])]
   exact zmp _
  ·rw [if_neg h4]
   refine zbz ha hb (fun _=>rfl) fun hu hv=>?_
   rw [if_neg (by rw [(yqn ha hu).1];exact h4)]
   exact zib _
 ·obtain ⟨a,b,u,v,rfl,rfl,ha,hb⟩:=hs.two hl
  have hf:(if b.k=4 then ((⟨2,a.nl || (b.nl || false)⟩:Knd),yaf a 4) else if a.k=4 then (⟨4,true⟩,yaf b 2) else (⟨2,true⟩,yaf a 2&&yaf b 2)).2=true:=hf
  show okK (if b.k=4 then ((⟨2,a.nl || (b.nl || false)⟩:Knd),yaf a 4) else if a.k=4 then (⟨4,true⟩,yaf b 2) else (⟨2,true⟩,yaf a 2&&yaf b 2)).1 (if ycb [u,v]=true then zV else if u.k=4/\v.k=2 then ydr (u.m - v.m) else ya5 (u.m - v.m))
  by_cases h4:b.k=4
  ·rw [if_pos h4] at hf ⊢
   refine zbz ha hb (fun h=>h) fun hu hv=>?_
   have k1:=zdc ha hu hf
   have k2:=(yqn hb hv).1.trans h4
   obtain ⟨p1,p2⟩:=zfq ha.1 k1
   obtain ⟨q1,q2⟩:=zfq hb.1 k2
   rw [if_neg (by rw [k2];omega),zkx qF qF]
   exact ze5 qF qF
  ·rw [if_neg h4] at hf ⊢
   by_cases h5:a.k=4
   ·rw [if_pos h5] at hf ⊢
    refine zbz ha hb (fun _=>rfl) fun hu hv=>?_
    rw [if_pos ⟨(yqn ha hu).1.trans h5,zdc hb hv hf⟩]
    exact zmp _
   ·rw [if_neg h5] at hf ⊢
    refine zbz ha hb (fun _=>rfl) fun hu hv=>?_
    rw [if_neg (by rw [(yqn ha hu).1];exact fun h=>h5 h.1)]
    exact zib _
 ·obtain ⟨a,b,u,v,rfl,rfl,ha,hb⟩:=hs.two hl
  exact zbz (x:=ya5 (u.m*v.m)) ha hb (fun _=>rfl) fun hu hv=>zib _
 ·obtain ⟨a,b,u,v,rfl,rfl,ha,hb⟩:=hs.two hl
  obtain ⟨f1,f2⟩:=ynk (show (yaf a 2&&yaf b 2)=true from hf)
  refine zbz (x:=if v.m=0 then zV else ⟨2,yfm u.m v.m,⟨#[]⟩⟩) ha hb (fun _=>rfl) fun hu hv=>?_
  split
  ·exact zcm rfl
  ·rename_i h0
   obtain ⟨p1,p2⟩:=zld ha.1 (zdc ha hu f1)
   obtain ⟨q1,q2⟩:=znh p1 p2 h0
   exact ze5 q1 q2
 ·obtain ⟨a,b,u,v,rfl,rfl,ha,hb⟩:=hs.two hl
  obtain ⟨f1,f2⟩:=ynk (show (yaf a 2&&yaf b 2)=true from hf)
  refine zbz (x:=if v.m=0 then zV else ⟨2,yfn u.m v.m,⟨#[]⟩⟩) ha hb (fun _=>rfl) fun hu hv=>?_
  split
  ·exact zcm rfl
  ·rename_i h0
   obtain ⟨p1,p2⟩:=zld hb.1 (zdc hb hv f2)
   obtain ⟨q1,q2⟩:=zni (a:=u.m) p1 p2 h0
   exact ze5 q1 q2
 ·obtain ⟨a,b,u,v,rfl,rfl,ha,hb⟩:=hs.two hl
  refine zbz (x:=if (u.s++v.s).size<=64 then ⟨3,0,u.s++v.s⟩ else zV) ha hb (fun _=>rfl) fun hu hv=>?_
  split
  ·rename_i h
   exact ⟨by simp [yab];simpa using h, .inr ⟨by simp,rfl⟩⟩
  ·exact zcm rfl
 ·obtain ⟨a,b,u,v,rfl,rfl,ha,hb⟩:=hs.two hl
  exact zbz ha hb (fun h=>h) fun _ _=>zdh _ _
 ·obtain ⟨a,b,u,v,rfl,rfl,ha,hb⟩:=hs.two hl
  exact zbz ha hb (fun h=>h) fun _ _=>zdh _ _
 ·obtain ⟨a,b,u,v,rfl,rfl,ha,hb⟩:=hs.two hl
  exact zbz ha hb (fun h=>h) fun _ _=>zdh _ _
 ·obtain ⟨a,b,u,v,rfl,rfl,ha,hb⟩:=hs.two hl
  exact zbz ha hb (fun h=>h) fun _ _=>zdh _ _
 ·obtain ⟨a,b,u,v,rfl,rfl,ha,hb⟩:=hs.two hl
  obtain ⟨f1,f2⟩:=ynk (show (yaf a 1&&yaf b 1)=true from hf)
  have h:=zpq (d:=0) ha hb f1 f2
  show okK ⟨1,a.nl || (b.nl || false)⟩ (yej u v 0)
  rwa [Bool.or_false]
 ·obtain ⟨a,b,u,v,rfl,rfl,ha,hb⟩:=hs.two hl
  obtain ⟨f1,f2⟩:=ynk (show (yaf a 1&&yaf b 1)=true from hf)
  have h:=zpq (d:=1) ha hb f1 f2
  show okK ⟨1,a.nl || (b.nl || false)⟩ (yej u v 1)
  rwa [Bool.or_false]
 ·obtain ⟨a,u,rfl,rfl,ha⟩:=hs.one hl
  exact zdh _ _
 ·obtain ⟨a,b,c,u,v,x,rfl,rfl,ha,hb,hc⟩:=hs.three hl
  obtain ⟨f1,f2⟩:=ynk (show ((ydn b c).2&&yaf a 1)=true from hf)
  show okK ⟨(ydn b c).1,b.nl || c.nl⟩ (if ybz u=1 then v else x)
  split
  ·exact zlz f1 (.inl hb) ⟨fun h h0=>by rw [zk1 h h0];rfl,fun h h0=>by rw [zk1 h h0,Bool.or_true]⟩
  ·exact zlz f1 (.inr hc) ⟨fun h h0=>by rw [zk1 h h0];rfl,fun h h0=>by rw [zk1 h h0,Bool.or_true]⟩
 ·obtain ⟨a,b,u,v,rfl,rfl,ha,hb⟩:=hs.two hl
  have f1:(ydn a b).2=true:=hf
  show okK ⟨(ydn a b).1,a.nl&&b.nl⟩ (if u.k=0 then v else u)
  split
  ·rename_i h0
   have e:=zk1 ha h0
   rw [e,Bool.true_and]
   refine zlz f1 (.inr hb) ⟨fun h h0=>?_,fun h h0=>zk1 h h0⟩
   exact zk1 hb h0
  ·rename_i h0
   exact zlz f1 (.inl ha) ⟨fun h h1=>absurd h1 h0,fun h h1=>absurd h1 h0⟩
 ·obtain ⟨a,u,rfl,rfl,ha⟩:=hs.one hl
  refine zil (x:=⟨2,u.s.size,⟨#[]⟩⟩) ha fun h=>?_
  have:=ylt ha.1 (zdc (k:=3) ha h hf)
  exact ze5 qF qF
 ·obtain ⟨a,u,rfl,rfl,ha⟩:=hs.one hl
  refine zil (x:=⟨2,yis nm u.m,⟨#[]⟩⟩) ha fun h=>?_
  obtain ⟨q1,q2⟩:=zfq ha.1 (zdc (k:=4) ha h hf)
  obtain ⟨k1,k2⟩:=zkg nm q1 q2
  exact ze5 qF qF
section
variable {cs:List Col}{r:List Val}
theorem zmz {n:Nod}{ts ts':List Knd}(h:yeo cs ts n=some ts'):arN n.op<=ts.length/\ts'.length=ts.length - arN n.op+1:=by
 unfold yeo at h
 split at h
 ·cases h
 ·rename_i hlt
  obtain ⟨k,hk,rfl⟩:=Option.map_eq_some_iff.1 h
  rw [List.length_append,List.length_take,List.length_singleton]
  omega
end
section
variable {cs cs':List Col}{r r':List Val}
theorem zhm : ∀ {p:List Nod} {ts ts':List Knd} {vs:List Val} (_:yb5 cs p ts=some ts') (_:ts.length=vs.length) (pre:List Val),yez cs' r p (pre++vs)=pre++yez cs' r p vs/\(yez cs' r p vs).length=ts'.length
 | [],ts,ts',vs,h,hl,pre=>by cases h;exact ⟨rfl,hl.symm⟩
 |n::p,ts,ts',vs,h,hl,pre=>by
  rw [yb5] at h
  cases hq:yeo cs ts n with
  |none=>rw [hq] at h;cases h
  |some t1=>
   rw [hq] at h
   obtain ⟨h1,h2⟩:=zmz hq
   have e:ygj cs' r (pre++vs) n=pre++ygj cs' r vs n:=by
    unfold ygj
    have e1:(pre++vs).length - arN n.op=pre.length+(vs.length - arN n.op):=by rw [List.length_append];omega
    rw [e1,List.take_length_add_append,List.drop_length_add_append,List.append_assoc]
   have hl2:t1.length=(ygj cs' r vs n).length:=by
    unfold ygj
    rw [List.length_append,List.length_take,List.length_singleton,h2];omega
   obtain ⟨k1,k2⟩:=zhm (p:=p) h hl2 pre
   refine ⟨?_,k2⟩
   show yez cs' r p (ygj cs' r (pre++vs) n)=pre++yez cs' r p (ygj cs' r vs n)
   rw [e];exact k1
theorem ykp {p:List Nod}{t:Knd}(h:ycx cs p t)(st:List Val):yez cs' r p st=st++ [ycg cs' r p]:=by
 obtain ⟨h1,h2⟩:=zhm (cs:=cs) (cs':=cs') (r:=r) (p:=p) (ts:= []) (vs:= []) (h []) rfl st
 rw [List.append_nil] at h1
 rw [h1]
 congr 1
 unfold ycg
 match hq:yez cs' r p [],h2 with
 | [x],_=>rfl
end
def ybr (cs:List Col)(p:List Nod)(t:Tab):Tab:=t.filter fun x=>ybz (ycg cs x.1 p)==1
def glb (s:ASt):Bool:= [0,2,4,64,65].all fun b=>eqO (s.heap.get b) (h0.get b)
def zon (k:Nat):Bool:=Nat.beq (k % 1024) 510
def Yc9 (args:List Value)(s:ASt):Option (Value × ASt):=match args with
 | []=>some (chD s.next 510,s.opq)
 |_=>none
def Ydd (args:List Value)(s:ASt):Option (Value × ASt):=match args with
 | [.chan (some z)]=>cond (zon z) (some (.int .i64 0,s)) none
 |_=>none
def ylb (L:List Nat)(args:List Value)(s:ASt):Option (Value × ASt):=match args with
 | [.chan (some k)]=>cond ((L.any fun d=>Nat.beq d (k % 1024))&&glb s) (some (.int .i64 0,s)) none
 |_=>none
def yle (L:List (Nat × List Col))(args:List Value)(s:ASt):Option (Value × ASt):=match args with
 | [.chan (some k),co, .chan (some z)]=>cond ((L.any fun p=>Nat.beq p.1 (k % 1024)&&yak 3 s co (flat yam p.2))&&(zon z&&glb s)) (some (.int .i64 0,s)) none
 |_=>none
structure WhrA where
 n:Nat
 d:Nat
 cs:List Col
 d2:Nat
def Yc1 (s:ASt)(co:Value)(n d:Nat):List WhrA->Option Nat
 | []=>none
 |g::l=>cond (Nat.beq g.n n&&(Nat.beq g.d d&&(Nat.ble d 31&&(Nat.ble g.d2 31&&yak 3 s co (flat yam g.cs))))) (some g.d2) (Yc1 s co n d l)
def yk7 (G:List WhrA)(args:List Value)(s:ASt):Option (Value × ASt):=match args with
 | [.agg ⟨[.int .i64 _, .string _, .slice none 0 0, .slice none 0 0, .slice none 0 0, .chan (some n)]⟩, .agg ⟨[.string _,co, .slice none 0 0, .chan (some k)]⟩, .chan (some z)]=>match Yc1 s co (n % 1024) (k % 1024) G with
  |some d2=>cond (zon z&&glb s) (some (.tuple ⟨[chD s.next d2, .int .i64 0]⟩,s.opq)) none
  |none=>none
 |_=>none
end
section
section
open Go.RowKit Go.RowKit Go.BigFrame
theorem yzs : ∀ (l:List UInt8) (j:Nat) (h:j<(⟨⟨l⟩⟩:ByteArray).size),(⟨⟨l⟩⟩:ByteArray)[j]'h=l.getD j 0:=fun l j h=>by
 have h2:j<l.length:=h
 rw [List.getD_eq_getElem?_getD,List.getElem?_eq_getElem h2]
 rfl
def yov (l:List UInt8):Bool:=decide (0<l.length)&&(decide (l.length<=24)&&(List.range l.length).all fun j=>okB j (l.getD j 0).toNat)
theorem yj3 {x:ByteArray}(h:yov x.data.toList=true):ybc x=true:=by
 obtain ⟨⟨l⟩⟩:=x
 unfold yov at h
 simp only [Bool.and_eq_true,decide_eq_true_eq,List.all_eq_true,List.mem_range] at h
 obtain ⟨h1,h2,h3⟩:=h
 refine zh8 ⟨h1,h2⟩ fun j hj _=>?_
 rw [yzs l j hj]
 exact h3 j hj
theorem ze2 : ∀ x∈knownN,ybc x=true:=fun x hx=>yj3 (List.all_eq_true.1 (show (knownN.all fun x=>yov x.data.toList)=true by kernel_rfl) x hx)
theorem zeh {x:ByteArray}(h:(knownN.any fun y=>eqF (.string y) (.string x))=true):x∈knownN:=by
 obtain ⟨y,hy,e⟩:=List.any_eq_true.1 h
 have:=yma e
 cases this
 exact hy
theorem zel {cs:List Col}(h1:1<=cs.length)(h2:cs.length<=12)(h3:(cs.all fun co=>(knownN.any fun y=>eqF (.string y) (.string co.nm))&&(decide (1<=co.k)&&decide (co.k<=4)))=true)(h4:((List.range cs.length).all fun j=>decide (yao cs (cs.getD j ⟨⟨#[]⟩,0,false⟩).nm=(j:Int)))=true):okCols cs:=by
 refine ⟨h1,h2,fun j co hj=>?_⟩
 have hm:=List.all_eq_true.1 h3 co (qP hj)
 simp only [Bool.and_eq_true,decide_eq_true_eq] at hm
 have hi:=List.all_eq_true.1 h4 j (List.mem_range.2 (qO hj).1)
 rw [List.getD_eq_getElem?_getD,hj,decide_eq_true_eq] at hi
 exact ⟨ze2 _ (zeh hm.1),hm.2.1,hm.2.2,hi⟩
theorem yrf {P:Nat->Prop}{c:Nat}(hc:c<=2)(h0:P 0)(h1:P 1)(h2:P 2):P c:=by
 have e:c=0∨c=1∨c=2:=by omega
 rcases e with rfl|rfl|rfl<;>assumption
def ykc (cs:List Col)(ns:List ByteArray):Bool:=(List.range ns.length).all fun j=>decide (0<=yao cs (ns.getD j ⟨#[]⟩))&&!yoa (ns.take j) (ns.getD j ⟨#[]⟩)
theorem ze6 {cs:List Col}{ns:List ByteArray}(h:ykc cs ns=true):ybu cs ns:=fun j s hj=>by
 have:=List.all_eq_true.1 h j (List.mem_range.2 (qO hj).1)
 rw [List.getD_eq_getElem?_getD,hj] at this
 simp only [Option.getD_some,Bool.and_eq_true,decide_eq_true_eq,Bool.not_eq_true'] at this
 exact this
section
variable {c:Nat}{t0 t1 t2:Tab}
end
end
section
open Go.RowKit Go.RowKit Go.BigFrame
def yeq :List ByteArray:= [ba [97,110,100],ba [111,114],ba [110,111,116],ba [110,117,108,108],ba [116,114,117,101],ba [102,97,108,115,101],ba [98,121],ba [115,101,108,102]]
theorem zlg :flat ycd yeq=wrds:=rfl
theorem zjg (x:ByteArray)(w:World)(ht:Tbs w):Calls Tryz.prog 234 #[.string x] w fun e w'=>e= .returned (.bool (yoa yeq x))/\w=w':=by
 obtain ⟨b,o,c,h1,h2,h3,h4⟩:=ht.words
 have hr:rStr w (some ⟨b,o,none⟩) 8 yeq:=za7 rfl fun j u h=>h4 j u (by rw [<-zlg];exact h)
 have H:=qL (yrp (some ⟨b,o,none⟩) 8 c yeq x w hr qF)
 clear hr h4
 go_enter Tryz.func234,Tryz.ntmps234
 go_wp2_with fail
 refine H.out.mono ?_
 rintro e w1 ⟨rfl,rfl⟩
 go_wp2
 go_ret
 exact ⟨zal rfl,rfl⟩
section
variable {tb:Nat->Tab}{num:Nat->Int}{D:Nat->Prop}{ρ:Nat->Pl}{s:ASt}{w w':World}
theorem yk5 {E:Ev}{args:List Value}{v:Value}{s':ASt}(hx:yk4 args s=some (v,s')){args':List Value}(h:Sim E D ρ s w)(hr:Rvs E D ρ args args'):
 Calls Tryz.prog 123 ⟨args'⟩ w fun e w'=> ∃ v' ρ' D',e= .returned v'/\Rv E D' ρ' v v'/\Sim E D' ρ' s' w'/\Ex D s ρ w D' s' ρ' w':=by
 unfold yk4 at hx
 split at hx
 ·rename_i x
  obtain ⟨hk,e⟩:=zax hx
  cases e
  obtain ⟨x',m,rfl,h1,h2⟩:=zag hr
  obtain rfl:=zay h2
  obtain rfl:=zat h1 rfl
  refine (yow x w (ze2 _ (zeh hk))).mono ?_
  rintro e w' ⟨rfl,hb⟩
  obtain ⟨r1,r2⟩:=zbv h hb
  exact ⟨_,_,_,rfl, .flat _ rfl,r1,r2⟩
 ·cases hx
theorem zfd : ∀ x∈knownN,yoa yeq x=false:=fun x hx=>by
 have:=List.all_eq_true.1 (show (knownN.all fun x=>!yoa yeq x)=true by kernel_rfl) x hx
 simpa using this
theorem yli {E:Ev}{args:List Value}{v:Value}{s':ASt}(hx:ylh args s=some (v,s')){args':List Value}(h:Sim E D ρ s w)(hr:Rvs E D ρ args args'):
 Calls Tryz.prog 234 ⟨args'⟩ w fun e w'=> ∃ v' ρ' D',e= .returned v'/\Rv E D' ρ' v v'/\Sim E D' ρ' s' w'/\Ex D s ρ w D' s' ρ' w':=by
 unfold ylh at hx
 split at hx
 ·rename_i x
  obtain ⟨hk,e⟩:=zax hx
  cases e
  simp only [Bool.and_eq_true] at hk
  obtain ⟨hk,hg⟩:=hk
  obtain ⟨x',m,rfl,h1,h2⟩:=zag hr
  obtain rfl:=zay h2
  obtain rfl:=zat h1 rfl
  have ht:=zfa h fun b hb=>(zl6 (List.all_eq_true.1 hg b hb)).1
  refine (zjg x w ht).mono ?_
  rintro e w' ⟨rfl,rfl⟩
  obtain ⟨r1,r2⟩:=zbv h (za0 w)
  exact ⟨_,_,_,rfl,by rw [zfd _ (zeh hk)];exact .flat _ rfl,r1,r2⟩
 ·cases hx
end
section
variable {c:Nat}{t0 t1 t2:Tab}
end
end
section
open Go.RowKit Go.RowKit Go.BigFrame
end
end
section
open Go.RowKit
theorem Ya4 {E:Ev}{D:Nat->Prop}{ρ:Nat->Pl}{L:Lit}{a:Act}(hs:L.small=true)(hz:a.tmps.size=L.ntm)(h: ∀ p∈L.tms,Rv E D ρ p.2 (a.tmps.getD p.1 undef)):TRel E D ρ L.tm a:=fun t=>by
 unfold Lit.small at hs
 rw [Bool.and_eq_true,List.all_eq_true,List.all_eq_true] at hs
 have hs1: ∀ p∈L.tl,p.1+1<2 ^ ycq:=fun p hp=>by
  have h:=hs.1 p hp
  exact qS h
 cases hg:L.tm.get t with
 |some v=>
  have hg:(ypo ycq (fun v:Value=>v) L.tl .leaf).get t=some v:=hg
  rcases zmx hs1 hg with ⟨p,hp,e,rfl⟩|hg
  ·rcases List.mem_append.1 hp with hp|hp
   ·obtain ⟨q,_,rfl⟩:=List.mem_map.1 hp
    exact .poison _
   ·rw [<-e]
    exact h p hp
  ·rw [Tr.get_leaf] at hg;cases hg
 |none=>
  rcases Nat.lt_or_ge t L.ntm with hlt|hge
  ·obtain ⟨o,ho⟩: ∃ o,(ypo ycq (fun v:Value=>v) L.tl .leaf).get t=some o:=zjn hs1 (.inl ⟨(t, .chan none),List.mem_append_left _ (List.mem_map.2 ⟨t,List.mem_range.2 hlt,rfl⟩),rfl⟩)
   have hg:(ypo ycq (fun v:Value=>v) L.tl .leaf).get t=none:=hg
   rw [hg] at ho;cases ho
  ·have e:a.tmps.getD t undef=undef:=by
    rw [Array.getD_eq_getD_getElem?,Array.getElem?_eq_none (by rw [hz];omega)];rfl
   rw [e]
   exact .tuple _ _ .nil
end
end Go.Proofs.YthcalfeoejdcgaaGreatDoor
