import Derived.Test.YthcalfeoejdcgaaGreatDoorK02
namespace Go.Proofs.YthcalfeoejdcgaaGreatDoor
set_option linter.unusedSimpArgs false
set_option linter.unusedVariables false
set_option maxRecDepth 100000
set_option maxHeartbeats 20000000
section
open Go.RowKit
structure Inv (E:Ev)(D0:Nat->Prop)(ρ0:Nat->Pl)(w0:World)(s0:ASt)(tm0:Tm)(sz:Nat)(p:Plan)(ops:List Oper)(X:Nat->Prop)(ρ:Nat->Pl)(a:Act)(w:World):Prop where
 size:a.tmps.size=sz
 defers:a.defers= []
 tr: ∀ t,Rv E (TX p ops D0 X ops.length t) ρ (VX p ops tm0 X ops.length t) (a.tmps.getD t undef)
 bd: ∀ b o,AX p s0 X ops.length b=some o->Bd E (DX p D0 X ops.length b) ρ w (ρ b) o.wr o.body
 ltd: ∀ b o,AX p s0 X ops.length b=some o->DX p D0 X ops.length b b
 inh: ∀ b o,AX p s0 X ops.length b=some o->(ρ b).blk<w.heap.size
 apart: ∀ b c o o',AX p s0 X ops.length b=some o->AX p s0 X ops.length c=some o'->b≠c->o.wr=true->(ρ b).blk≠(ρ c).blk
 old: ∀ x,x<s0.next->ρ x=ρ0 x
 os:w.os=w0.os
 tape:w.tape=w0.tape
 output:w.output=w0.output
 hsize:w0.heap.size<=w.heap.size
 frame: ∀ k,k<w0.heap.size->(∀ b m,m<ops.length->X m->b∈(p.out m).tc-> ∀ o,s0.heap.get b=some o->(ρ0 b).blk≠k)->w.heap[k]?=w0.heap[k]?
 born: ∀ b o,s0.next<=b->AX p s0 X ops.length b=some o->(ρ b).blk<w0.heap.size-> ∃ c,(∃ m,m<ops.length/\X m/\c∈(p.out m).tc)/\(∃ o',s0.heap.get c=some o')/\c<s0.next/\(ρ0 c).blk=(ρ b).blk
 dead: ∀ b o,b<s0.next->AX p s0 X ops.length b=some o-> ∃ o',s0.heap.get b=some o'
 twr: ∀ b m o,m<ops.length->X m->b∈(p.out m).tc->s0.heap.get b=some o->o.wr=true
 kept: ∀ m,m<ops.length->X m->p.Kept m
 prot: ∀ x k ob,(ρ x).snap k=some ob->w.heap[k]?=some ob/\ ∀ b o,AX p s0 X ops.length b=some o->o.wr=true->(ρ b).blk≠k
 snew: ∀ x m,m<ops.length->X m->p.base m<=x->x<p.base (m+1)-> ∀ k ob,(ρ x).snap k=some ob->w0.heap.size<=k
 far: ∀ x,p.base ops.length<=x->ρ x=ρ0 x
def Fr (p:Plan)(s0:ASt)(n:Nat)(X:Nat->Prop)(i:Nat)(ρ:Nat->Pl)(w:World)(ρ':Nat->Pl)(w':World):Prop:=
 (∀ x,¬ (p.base i<=x/\x<p.base (i+1))->ρ' x=ρ x)/\w.heap.size<=w'.heap.size/\
  (∀ k,k<w.heap.size->(∀ b x,AX p s0 X n b=some x->(ρ b).blk≠k)->w'.heap[k]?=w.heap[k]?/\ ∀ b x,AX p s0 (fun m=>X m∨m=i) n b=some x->(ρ' b).blk≠k)/\
  ∀ x,p.base i<=x->x<p.base (i+1)-> ∀ k ob,(ρ' x).snap k=some ob->w.heap.size<=k
theorem zmd {ops:Array Oper}{o:Oper}{t:Tmp}(h:Operand.tmp t∈o.op.operands):t∈o.looksAt ops:=by
 unfold Oper.looksAt
 refine List.mem_append.2 (.inl (List.mem_filterMap.2 ⟨.tmp t,by simpa using h,rfl⟩))
theorem zgd {ops:List Oper}{o o':Oper}{j:Nat}{want:Bool}{d:Tmp}(hg:o.guard=some (j,want))(ho:ops[j]?=some o')(hd:o'.dst=some d):d∈o.looksAt ⟨ops⟩:=by
 unfold Oper.looksAt
 refine List.mem_append.2 (.inr ?_)
 rw [hg]
 have:(⟨ops⟩:Array Oper)[j]?=some o':=by simpa using ho
 simp [this,hd]
section
variable {E:Ev}{P:Program}{T:Tbl}{r:Rn}{sz:Nat}{ops:List Oper}{tm0:Tm}{s0:ASt}{p:Plan}{D0:Nat->Prop}{ρ0 ρ:Nat->Pl}{w0 w:World}{a0 a:Act}{X:Nat->Prop}{i:Nat}
theorem zpj (g:p.Good T r sz ops tm0 s0)(hkept: ∀ j,j<i->p.Kept j)(hI:Inv E D0 ρ0 w0 s0 tm0 sz p ops X ρ a w)(hk:p.Kept i)(hi:i<ops.length)(hx: ¬ X i)(hcl: ∀ k,k<ops.length->X k-> ∀ j,p.nd k j=true->X j){b m:Nat}(hm:m<ops.length)(hX:X m)(him:i<m)(ha:p.aff i b): ¬ p.aff m b:=by
 have hnd:p.nd m i=false:=by
  cases h:p.nd m i with
  |false=>rfl
  |true=>exact absurd (hcl m hm hX i h) hx
 have hb:p.base (i+1)<=p.base m:=zaz g him qF
 intro hb2
 have hrange:p.base i<=b/\b<p.base (i+1)->False:=fun ⟨h1,h2⟩=>by
  rcases hb2 with ⟨h3,h4⟩|h3
  ·omega
  ·rcases (hI.kept m hm hX).2.2 b h3 with ⟨x,hx⟩|⟨h4,_⟩
   ·exact (g.inq m b x hm hx).2 i him hnd (.inl ⟨h1,h2⟩)
   ·omega
 rcases ha with h1|h1
 ·exact hrange h1
 ·rcases hk.2.2 b h1 with ⟨x,hx⟩|h2
  ·have h4:=(g.inq i b x hi hx).1
   rw [zkr g i qF hkept] at h4
   have h5:=yiv g i qF (fun j hj _=>hkept j hj) h4
   rcases hb2 with h6|h6
   ·have:=zaz g (show i<=m by omega) qF;omega
   ·exact g.lat i m b x him hm hnd hx h5 h6
  ·exact hrange h2
theorem zg6 (g:p.Good T r sz ops tm0 s0)(h0:Sim E D0 ρ0 s0 w0)(hI:Inv E D0 ρ0 w0 s0 tm0 sz p ops X ρ a w)(hi:i<ops.length)(hx: ¬ X i){o:Oper}(ho:ops[i]?=some o)
 (hcl: ∀ k,k<ops.length->X k-> ∀ j,p.nd k j=true->X j) (hnd: ∀ j,p.nd i j=true->X j) (hkept: ∀ j,j<i->p.Kept j):
 Sim E (Din p D0 i) ρ ⟨p.inp i,p.base i,[]⟩ w/\(∀ t,t∈o.looksAt ⟨ops⟩->Rv E (Din p D0 i) ρ (yln (p.tmS i) t) (a.tmps.getD t undef))/\
  ∀ v' ρ1 D1 w1,Rv E D1 ρ1 (p.v i) v'->Sim E D1 ρ1 (p.out i) w1->Ex (Din p D0 i) ⟨p.inp i,p.base i,[]⟩ ρ w D1 (p.out i) ρ1 w1->
   ∃ ρ2,Inv E D0 ρ0 w0 s0 tm0 sz p ops (fun m=>X m∨m=i) ρ2 (a.put o.dst v') w1/\p.Kept i/\Fr p s0 ops.length X i ρ w ρ2 w1/\ ∀ x,x<p.base (i+1)->ρ2 x=ρ1 x:=by
 have hoA:(⟨ops⟩:Array Oper)[i]?=some o:=by simpa using ho
 have hdi:yb8 ops i=o.dst:=by unfold yb8;rw [ho];rfl
 have hbi:s0.next<=p.base i:=by rw [<-g.b0];exact zaz g (Nat.zero_le _) qF
 have hbs:=g.bs i hi
 have ndl: ∀ m,m<ops.length->X m->i<m->p.nd m i=false:=fun m hm hX _=>by
  cases h:p.nd m i with
  |false=>rfl
  |true=>exact absurd (hcl m hm hX i h) hx
 -- ranges of those that have come up lie apart from this one's
 have rng: ∀ j x,j<ops.length->j≠i->p.base j<=x->x<p.base (j+1)-> ¬ (p.base i<=x/\x<p.base (i+1)):=fun j x hj hne h1 h2 ⟨h3,h4⟩=>by
  rcases Nat.lt_or_gt_of_ne hne with hlt|hlt
  ·have:=zaz g (show j+1<=i by omega) qF;omega
  ·have:=zaz g (show i+1<=j by omega) qF;omega
 have dkx: ∀ k x,k<ops.length->X k->DK p D0 k x-> ¬ (p.base i<=x/\x<p.base (i+1)):=fun k x hk hX hd=>by
  rcases hd with hd|⟨j,hj,h1,h2⟩
  ·have:=h0.dn x hd
   intro h;omega
  ·have hjX:X j:=by
    rcases hj with rfl|hj
    ·exact hX
    ·exact hcl k hk hX j hj
   have hjn:j<ops.length:=by
    rcases hj with rfl|hj
    ·exact hk
    ·have:=g.lt k j hk hj;omega
   exact rng j x hjn (fun e=>hx (e ▸ hjX)) h1 h2
 have dxx: ∀ b x,DX p D0 X ops.length b x-> ¬ (p.base i<=x/\x<p.base (i+1)):=fun b x hd=>by
  rcases zli _ hd with hd|⟨k,h1,h2,_,h3⟩
  ·have:=h0.dn x hd
   intro h;omega
  ·exact dkx k x h1 h2 h3
 have txx: ∀ t x,TX p ops D0 X ops.length t x-> ¬ (p.base i<=x/\x<p.base (i+1)):=fun b x hd=>by
  rcases zlj _ hd with hd|⟨k,h1,h2,_,h3⟩
  ·have:=h0.dn x hd
   intro h;omega
  ·exact dkx k x h1 h2 h3
 have dkin: ∀ k x,p.nd i k=true->DK p D0 k x->Din p D0 i x:=fun k x hk hd=>by
  rcases hd with hd|⟨j,hj,h1,h2⟩
  ·exact .inl hd
  ·refine .inr ⟨j,?_,h1,h2⟩
   rcases hj with rfl|hj
   ·exact hk
   ·exact g.tr i k j hi hk hj
 -- the blocks handed to the operation
 have cK2: ∀ b x,(p.inp i).get b=some x-> ∀ m,m<ops.length->X m->p.aff m b->p.nd i m=true:=fun b x hb m hm hX ha=>by
  cases hn:p.nd i m with
  |true=>rfl
  |false=>
   rcases Nat.lt_trichotomy m i with h|h|h
   ·exact absurd ha ((g.inq i b x hi hb).2 m h hn)
   ·subst h;exact absurd hX hx
   ·have h4:=(g.inq i b x hi hb).1
    rw [zkr g i qF hkept] at h4
    have h5:=yiv g i qF (fun j hj _=>hkept j hj) h4
    rcases ha with h6|h6
    ·have:=zaz g (show i<=m by omega) qF;omega
    ·exact absurd h6 (g.lat i m b x h hm (ndl m hm hX h) hb h5)
 have cK1: ∀ b x,(p.inp i).get b=some x->AX p s0 X ops.length b=some x:=fun b x hb=>by
  have h1:=(g.inq i b x hi hb).1
  rw [zkr g i qF hkept] at h1
  have h2:=(zdb (p:=p) (s0:=s0) (D0:=D0) (X:=X) (b:=b) (i:=i) ops.length qF fun j h3 h4 hX ha=>by
   have:=g.lt i j hi (cK2 b x hb j h4 hX ha);omega).1
  rw [h2,<-h1]
  refine zci i fun j hj ha=>⟨fun _=>trivial,fun _=>?_⟩
  cases hn:p.nd i j with
  |true=>exact hnd j hn
  |false=>exact absurd ha ((g.inq i b x hi hb).2 j hj hn)
 have dIn: ∀ b x,(p.inp i).get b=some x-> ∀ y,DX p D0 X ops.length b y->Din p D0 i y:=fun b x hb y hd=>by
  rcases zli _ hd with hd|⟨k,h1,h2,h3,h4⟩
  ·exact .inl hd
  ·exact dkin k y (cK2 b x hb k h1 h2 h3) h4
 have hsin:Sim E (Din p D0 i) ρ ⟨p.inp i,p.base i,[]⟩ w:=by
  refine ⟨fun b o hb=>dIn b o hb b (hI.ltd b o (cK1 b o hb)),fun x hd=>?_,fun b o hb=>(hI.bd b o (cK1 b o hb)).kept (dIn b o hb) (fun _ _=>rfl) (fun _=>rfl),fun b o hb=>hI.inh b o (cK1 b o hb),fun b c o o' hb hc hne hw=>hI.apart b c o o' (cK1 b o hb) (cK1 c o' hc) hne hw,fun q hq=> .inl (h0.gl q hq),fun q hq=>?_,fun x k ob hk=>⟨(hI.prot x k ob hk).1,fun b o hb hwr=>(hI.prot x k ob hk).2 b o (cK1 b o hb) hwr⟩⟩
  ·rcases hd with hd|⟨j,hj,_,h2⟩
   ·exact qQ (h0.dn x hd) hbi
   ·have:=zaz g (show j+1<=i from g.lt i j hi hj) qF
    show x<p.base i
    omega
  ·rw [hI.old q (h0.dn q (h0.gl q hq))]
   exact h0.glob q hq
 -- the temporaries that it looks at
 have cT: ∀ t,t∈o.looksAt ⟨ops⟩->VX p ops tm0 X ops.length t=yln (p.tmS i) t/\ ∀ x,TX p ops D0 X ops.length t x->Din p D0 i x:=fun t ht=>by
  have hdst: ∀ m,m<ops.length->X m->yb8 ops m=some t->p.nd i m=true:=fun m hm hX hd=>by
   cases hn:p.nd i m with
   |true=>rfl
   |false=>
    obtain ⟨om,hom⟩: ∃ om,ops[m]?=some om:=⟨ops[m],List.getElem?_eq_getElem _⟩
    have hdm:om.dst=some t:=by unfold yb8 at hd;rw [hom] at hd;exact hd
    rcases Nat.lt_trichotomy m i with h|h|h
    ·exact absurd ht ((Oper.apart_spec (g.apa i m o om ho hom h hn)).1 t hdm)
    ·subst h;exact absurd hX hx
    ·exact absurd ht ((Oper.apart_spec (g.apa m i om o hom ho h (ndl m hm hX h))).2.2 t hdm)
  have hlow: ∀ j,j<i->yb8 ops j=some t->(X j↔True):=fun j hj hd=>⟨fun _=>trivial,fun _=>by
   cases hn:p.nd i j with
   |true=>exact hnd j hn
   |false=>
    obtain ⟨om,hom⟩: ∃ om,ops[j]?=some om:=⟨ops[j],List.getElem?_eq_getElem _⟩
    have hdm:om.dst=some t:=by unfold yb8 at hd;rw [hom] at hd;exact hd
    exact absurd ht ((Oper.apart_spec (g.apa i j o om ho hom hj hn)).1 t hdm)⟩
  have h1:=zhp (p:=p) (ops:=ops) (tm0:=tm0) (D0:=D0) (X:=X) (t:=t) (i:=i) ops.length qF fun j h3 h4 hX hd=>by
   have:=g.lt i j hi (hdst j h4 hX hd);omega
  have h2:=zfh (p:=p) (ops:=ops) (tm0:=tm0) (D0:=D0) (X:=X) (Y:=fun _=>True) (t:=t) i hlow
  refine ⟨by rw [h1.1,h2.1,yp3 g i qF],fun x hd=>?_⟩
  rcases zlj _ hd with hd|⟨k,h5,h6,h7,h8⟩
  ·exact .inl hd
  ·exact dkin k x (hdst k h5 h6 h7) h8
 have rT: ∀ t,t∈o.looksAt ⟨ops⟩->Rv E (Din p D0 i) ρ (yln (p.tmS i) t) (a.tmps.getD t undef):=fun t ht=>by
  rw [<-(cT t ht).1]
  exact (hI.tr t).mono (cT t ht).2 fun _ _=>rfl
 refine ⟨hsin,rT,fun v' ρ1 D1 w1 hv hs hxx=>?_⟩
 have hbo:=g.bo i hi
 have hKi:p.Kept i:=⟨fun b h1 h2=>hxx.kept b h1 h2,fun b x hb=>by rw [<-hbo];exact hs.low b x hb,fun b hb=>(hxx.tcl b hb qH).imp (fun h=>h.1) fun h=>by rw [<-hbo];exact h⟩
 obtain ⟨ρ2,hρ2⟩: ∃ ρ2:Nat->Pl,ρ2=fun x=>if p.base i<=x/\x<p.base (i+1) then ρ1 x else ρ x:=⟨_,rfl⟩
 have ag1: ∀ x,x<p.base (i+1)->ρ2 x=ρ1 x:=fun x hx1=>by
  rw [hρ2]
  by_cases h:p.base i<=x
  ·exact if_pos ⟨h,hx1⟩
  ·refine (if_neg (fun e=>h e.1)).trans (hxx.same x ?_).symm
   show x<p.base i
   omega
 have ag2: ∀ x,¬ (p.base i<=x/\x<p.base (i+1))->ρ2 x=ρ x:=fun x h=>by rw [hρ2];exact if_neg h
 have d1lt: ∀ x,D1 x->x<p.base (i+1):=fun x h=>by rw [<-hbo];exact hs.dn x h
 have d1k: ∀ x,D1 x->DK p D0 i x:=fun x h=>by
  rcases hxx.fresh x h with h1|h1
  ·rcases h1 with h1|⟨j,hj,h2⟩
   ·exact .inl h1
   ·exact .inr ⟨j, .inr hj,h2⟩
  ·exact .inr ⟨i, .inl rfl,h1,d1lt x h⟩
 have nob: ∀ b,p.aff i b-> ∀ m,m<ops.length->X m->i<m-> ¬ p.aff m b:=fun b ha m hm hX him=>zpj g hkept hI hKi hi hx hcl hm hX him ha
 -- what lies where
 have axA: ∀ b,p.aff i b->AX p s0 (fun m=>X m∨m=i) ops.length b=(p.out i).heap.get b/\DX p D0 (fun m=>X m∨m=i) ops.length b=DK p D0 i:=fun b ha=>by
  have h1:=zdb (p:=p) (s0:=s0) (D0:=D0) (X:=fun m=>X m∨m=i) (b:=b) (i:=i+1) ops.length qF fun j h3 h4 hX ha2=>by
   rcases hX with hX|hX
   ·exact nob b ha j h4 hX qF ha2
   ·omega
  rw [h1.1,h1.2,zdw,zfs,if_pos ⟨.inr rfl,ha⟩,if_pos ⟨.inr rfl,ha⟩]
  exact ⟨rfl,rfl⟩
 have axB: ∀ b,¬ p.aff i b->AX p s0 (fun m=>X m∨m=i) ops.length b=AX p s0 X ops.length b/\DX p D0 (fun m=>X m∨m=i) ops.length b=DX p D0 X ops.length b:=fun b ha=>by
  have e: ∀ j,j<ops.length->p.aff j b->((fun m=>X m∨m=i) j↔X j):=fun j _ haj=>⟨fun h=>h.resolve_right fun e=>ha (e ▸ haj), .inl⟩
  exact ⟨zci _ e,zlh _ e⟩
 have outlt: ∀ b x,(p.out i).heap.get b=some x->b<p.base (i+1):=hKi.2.1
 -- a block that the operation has left alone
 have farB: ∀ b x,¬ p.aff i b->AX p s0 X ops.length b=some x->w1.heap[(ρ b).blk]?=w.heap[(ρ b).blk]?:=fun b x ha hb=>by
  refine hxx.frame _ (hI.inh b x hb) fun c hc o' ho'=>?_
  have hne:c≠b:=fun e=>ha (.inr (e ▸ hc))
  exact hI.apart c b o' x (cK1 c o' ho') hb hne (hxx.twr c o' hc qH ho')
 have oldB: ∀ b x,AX p s0 X ops.length b=some x->ρ2 b=ρ b:=fun b x hb=>ag2 b (dxx b b (hI.ltd b x hb))
 -- a block that the operation has made or turned lies apart from those that it left alone
 have mix: ∀ b x c y,p.aff i b->(p.out i).heap.get b=some x-> ¬ p.aff i c->AX p s0 X ops.length c=some y->(ρ1 b).blk≠(ρ c).blk:=fun b x c y hab hb hac hc e=>by
  have hcl2:=hI.inh c y hc
  rcases Nat.lt_or_ge b (p.base i) with h1|h1
  ·have htc:b∈(p.out i).tc:=by
    rcases hab with h2|h2
    ·omega
    ·exact h2
   rcases hKi.2.2 b htc with ⟨z,hz⟩|h2
   ·rw [hxx.same b h1] at e
    exact hI.apart b c z y (cK1 b z hz) hc (fun e2=>hac (e2 ▸ hab)) (hxx.twr b z htc qH hz) e
   ·omega
  ·obtain ⟨d,hd,⟨z,hz⟩,_,hd2⟩:=hxx.born b x h1 hb (by rw [e];exact hcl2)
   exact hI.apart d c z y (cK1 d z hz) hc (fun e2=>hac (.inr (e2 ▸ hd))) (hxx.twr d z hd qH hz) (hd2.trans e)
 have snw: ∀ x,p.base i<=x->x<p.base (i+1)-> ∀ k ob,(ρ2 x).snap k=some ob->w.heap.size<=k:=fun x h1 h2 k ob hk=>by
  rw [ag1 x h2] at hk
  exact hxx.snew x h1 (by rw [hbo];exact h2) k ob hk
 have hFr:Fr p s0 ops.length X i ρ w ρ2 w1:=by
  refine ⟨ag2,hxx.size,fun k hk hno=>⟨hxx.frame k hk fun c hc o' ho'=>hno c o' (cK1 c o' ho'),fun b x hb=>?_⟩,snw⟩
  by_cases ha:p.aff i b
  ·rw [(axA b ha).1] at hb
   rw [ag1 b (outlt b x hb)]
   intro e
   rcases Nat.lt_or_ge b (p.base i) with h1|h1
   ·have htc:b∈(p.out i).tc:=by
     rcases ha with h2|h2
     ·omega
     ·exact h2
    rcases hKi.2.2 b htc with ⟨z,hz⟩|h2
    ·rw [hxx.same b h1] at e
     exact hno b z (cK1 b z hz) e
    ·omega
   ·obtain ⟨d,hd,⟨z,hz⟩,_,hd2⟩:=hxx.born b x h1 hb (by rw [e];exact hk)
    exact hno d z (cK1 d z hz) (hd2.trans e)
  ·rw [(axB b ha).1] at hb
   rw [oldB b x hb]
   exact hno b x hb
 refine ⟨ρ2,⟨?_,?_,?_,?_,?_,?_,?_,?_,hxx.os.trans hI.os,hxx.tape.trans hI.tape,hxx.output.trans hI.output,qR hI.hsize hxx.size,?_,?_,?_,?_,?_,?_,?_,fun x hx1=>(ag2 x (fun e=>by have:=zaz g (show i+1<=ops.length by omega) (qV _);omega)).trans (hI.far x hx1)⟩,hKi,hFr,ag1⟩
 ·-- size
  cases hd:o.dst<;>simp [Act.put,hI.size]
 ·cases hd:o.dst<;>exact hI.defers
 ·-- temporaries
  intro t
  by_cases hd:o.dst=some t
  ·have hsz:=(ziu (g.put i o ho) t).2 t hd
   have h1:=zhp (p:=p) (ops:=ops) (tm0:=tm0) (D0:=D0) (X:=fun m=>X m∨m=i) (t:=t) (i:=i+1) ops.length qF fun j h3 h4 hX hd2=>by
    rcases hX with hX|hX
    ·obtain ⟨om,hom⟩: ∃ om,ops[j]?=some om:=⟨ops[j],List.getElem?_eq_getElem _⟩
     have hdm:om.dst=some t:=by unfold yb8 at hd2;rw [hom] at hd2;exact hd2
     exact (Oper.apart_spec (g.apa j i om o hom ho qF (ndl j h4 hX qF))).2.1 t hd hdm
    ·omega
   rw [h1.1,h1.2,zfu,zft,if_pos ⟨.inr rfl,by rw [hdi];exact hd⟩,if_pos ⟨.inr rfl,by rw [hdi];exact hd⟩,hd]
   have e2:(a.put (some t) v').tmps.getD t undef=v':=by
    have hlt2:t<a.tmps.size:=by rw [hI.size];exact hsz
    simp [Act.put,Array.getD_eq_getD_getElem?,Array.getElem?_setIfInBounds,hlt2]
   rw [e2]
   exact hv.mono d1k fun x hxd=>ag1 x (d1lt x hxd)
  ·have h1:=zfh (p:=p) (ops:=ops) (tm0:=tm0) (D0:=D0) (X:=fun m=>X m∨m=i) (Y:=X) (t:=t) ops.length fun j _ hdj=>⟨fun h=>h.resolve_right fun e=>hd (by rw [<-hdi,<-e];exact hdj), .inl⟩
   rw [h1.1,h1.2]
   have e2:(a.put o.dst v').tmps.getD t undef=a.tmps.getD t undef:=by
    cases hdd:o.dst with
    |none=>rfl
    |some d=>
     simp only [Act.put,Array.getD_eq_getD_getElem?]
     rw [Array.getElem?_setIfInBounds,if_neg (fun h=>hd (by rw [hdd,h]))]
   rw [e2]
   exact (hI.tr t).mono (fun _ h=>h) fun x hxd=>ag2 x (txx t x hxd)
 ·-- blocks
  intro b x hb
  by_cases ha:p.aff i b
  ·rw [(axA b ha).1] at hb
   rw [(axA b ha).2,ag1 b (outlt b x hb)]
   exact (hs.bd b x hb).kept d1k (fun y hy=>ag1 y (d1lt y hy)) (fun _=>rfl)
  ·rw [(axB b ha).1] at hb
   rw [(axB b ha).2,oldB b x hb]
   exact (hI.bd b x hb).kept (fun _ h=>h) (fun y hy=>ag2 y (dxx b y hy)) (fun _=>farB b x ha hb)
 ·intro b x hb
  by_cases ha:p.aff i b
  ·rw [(axA b ha).1] at hb
   rw [(axA b ha).2]
   exact d1k b (hs.lt b x hb)
  ·rw [(axB b ha).1] at hb
   rw [(axB b ha).2]
   exact hI.ltd b x hb
 ·intro b x hb
  by_cases ha:p.aff i b
  ·rw [(axA b ha).1] at hb
   rw [ag1 b (outlt b x hb)]
   exact hs.inh b x hb
  ·rw [(axB b ha).1] at hb
   rw [oldB b x hb]
   exact qQ (hI.inh b x hb) hxx.size
 ·intro b c x y hb hc hne hwr
  by_cases ha:p.aff i b<;>by_cases hac:p.aff i c
  ·rw [(axA b ha).1] at hb
   rw [(axA c hac).1] at hc
   rw [ag1 b (outlt b x hb),ag1 c (outlt c y hc)]
   exact hs.apart b c x y hb hc hne hwr
  ·rw [(axA b ha).1] at hb
   rw [(axB c hac).1] at hc
   rw [ag1 b (outlt b x hb),oldB c y hc]
   exact mix b x c y ha hb hac hc
  ·rw [(axB b ha).1] at hb
   rw [(axA c hac).1] at hc
   rw [ag1 c (outlt c y hc),oldB b x hb]
   exact (mix c y b x hac hc ha hb).symm
  ·rw [(axB b ha).1] at hb
   rw [(axB c hac).1] at hc
   rw [oldB b x hb,oldB c y hc]
   exact hI.apart b c x y hb hc hne hwr
 ·intro x hx1
  rw [ag2 x (fun h=>by omega)]
  exact hI.old x hx1
 ·-- frame
  intro k hk hf
  have h1:w.heap[k]?=w0.heap[k]?:=hI.frame k hk fun b m hm hX hb=>hf b m hm (.inl hX) hb
  rw [<-h1]
  refine hxx.frame k (qQ hk hI.hsize) fun c hc o' ho' e=>?_
  have hac:=cK1 c o' ho'
  rcases Nat.lt_or_ge c s0.next with h2|h2
  ·obtain ⟨z,hz⟩:=hI.dead c o' h2 hac
   exact hf c i hi (.inr rfl) hc z hz (by rw [<-hI.old c h2];exact e)
  ·obtain ⟨d,⟨m,hm,hX,hd⟩,⟨z,hz⟩,_,hd2⟩:=hI.born c o' h2 hac (by rw [e];exact hk)
   exact hf d m hm (.inl hX) hd z hz (hd2.trans e)
 ·-- born
  intro b x hb1 hb hl
  by_cases ha:p.aff i b
  ·rw [(axA b ha).1] at hb
   rw [ag1 b (outlt b x hb)] at hl ⊢
   have fin: ∀ c z,c∈(p.out i).tc->(p.inp i).get c=some z->(ρ c).blk=(ρ1 b).blk-> ∃ c,(∃ m,m<ops.length/\(X m∨m=i)/\c∈(p.out m).tc)/\(∃ o',s0.heap.get c=some o')/\c<s0.next/\(ρ0 c).blk=(ρ1 b).blk:=fun c z hc hz e=>by
    have hac:=cK1 c z hz
    rcases Nat.lt_or_ge c s0.next with h2|h2
    ·exact ⟨c,⟨i,hi, .inr rfl,hc⟩,hI.dead c z h2 hac,h2,by rw [<-hI.old c h2];exact e⟩
    ·obtain ⟨d,⟨m,hm,hX,hd⟩,h3,h4,hd2⟩:=hI.born c z h2 hac (by rw [e];exact hl)
     exact ⟨d,⟨m,hm, .inl hX,hd⟩,h3,h4,hd2.trans e⟩
   rcases Nat.lt_or_ge b (p.base i) with h1|h1
   ·have htc:b∈(p.out i).tc:=by
     rcases ha with h2|h2
     ·omega
     ·exact h2
    rcases hKi.2.2 b htc with ⟨z,hz⟩|h2
    ·exact fin b z htc hz (by rw [hxx.same b h1])
    ·omega
   ·obtain ⟨d,hd,⟨z,hz⟩,_,hd2⟩:=hxx.born b x h1 hb (qQ hl hI.hsize)
    exact fin d z hd hz hd2
  ·rw [(axB b ha).1] at hb
   rw [oldB b x hb] at hl ⊢
   obtain ⟨d,⟨m,hm,hX,hd⟩,h3⟩:=hI.born b x hb1 hb hl
   exact ⟨d,⟨m,hm, .inl hX,hd⟩,h3⟩
 ·intro b x hb1 hb
  by_cases ha:p.aff i b
  ·rw [(axA b ha).1] at hb
   obtain ⟨z,hz⟩:=hxx.dead b x (qQ hb1 hbi) hb
   exact hI.dead b z hb1 (cK1 b z hz)
  ·rw [(axB b ha).1] at hb
   exact hI.dead b x hb1 hb
 ·intro b m x hm hX hb hsb
  rcases hX with hX|rfl
  ·exact hI.twr b m x hm hX hb hsb
  ·have hb0:=h0.low b x hsb
   by_cases hold: ∃ m',m'<ops.length/\X m'/\b∈(p.out m').tc
   ·obtain ⟨m',h1,h2,h3⟩:=hold
    exact hI.twr b m' x h1 h2 h3 hsb
   ·rcases hKi.2.2 b hb with ⟨z,hz⟩|h2
    ·have h1:=cK1 b z hz
     have h2:=(zdb (p:=p) (s0:=s0) (D0:=D0) (X:=X) (b:=b) (i:=0) ops.length (Nat.zero_le _) fun j _ h4 hXj haj=>by
      rcases haj with h5|h5
      ·have:s0.next<=p.base j:=by rw [<-g.b0];exact zaz g (Nat.zero_le _) qF
       omega
      ·exact hold ⟨j,h4,hXj,h5⟩).1
     rw [h2] at h1
     have h3:s0.heap.get b=some z:=h1
     rw [hsb] at h3
     cases h3
     exact hxx.twr b x hb qH hz
    ·omega
 ·intro m hm hX
  rcases hX with hX|rfl
  ·exact hI.kept m hm hX
  ·exact hKi
 ·intro x k ob hk
  by_cases hr:p.base i<=x/\x<p.base (i+1)
  ·have hlow:=snw x hr.1 hr.2 k ob hk
   rw [ag1 x hr.2] at hk
   obtain ⟨h1,h2⟩:=hs.prot x k ob hk
   refine ⟨h1,fun b o hb hwr=>?_⟩
   by_cases ha:p.aff i b
   ·rw [(axA b ha).1] at hb
    rw [ag1 b (outlt b o hb)]
    exact h2 b o hb hwr
   ·rw [(axB b ha).1] at hb
    rw [oldB b o hb]
    have:=hI.inh b o hb
    omega
  ·rw [ag2 x hr] at hk
   obtain ⟨h1,h2⟩:=hI.prot x k ob hk
   have hlt:=(Array.getElem?_eq_some_iff.1 h1).1
   refine ⟨(hxx.frame k hlt fun c hc o' ho'=>h2 c o' (cK1 c o' ho') (hxx.twr c o' hc qH ho')).trans h1,fun b o hb hwr e=>?_⟩
   by_cases ha:p.aff i b
   ·rw [(axA b ha).1] at hb
    rw [ag1 b (outlt b o hb)] at e
    rcases Nat.lt_or_ge b (p.base i) with h3|h3
    ·have htc:b∈(p.out i).tc:=by
      rcases ha with h4|h4
      ·omega
      ·exact h4
     rcases hKi.2.2 b htc with ⟨z,hz⟩|h4
     ·rw [hxx.same b h3] at e
      exact h2 b z (cK1 b z hz) (hxx.twr b z htc qH hz) e
     ·omega
    ·obtain ⟨d,hd,⟨z,hz⟩,_,hd2⟩:=hxx.born b o h3 hb (by rw [e];exact hlt)
     exact h2 d z (cK1 d z hz) (hxx.twr d z hd qH hz) (hd2.trans e)
   ·rw [(axB b ha).1] at hb
    rw [oldB b o hb] at e
    exact h2 b o hb hwr e
 ·intro x m hm hX h1 h2 k ob hk
  rcases hX with hX|rfl
  ·rw [ag2 x (rng m x hm (fun e=>hx (e ▸ hX)) h1 h2)] at hk
   exact hI.snew x m hm hX h1 h2 k ob hk
  ·exact qR hI.hsize (snw x h1 h2 k ob hk)
theorem zg7 (g:p.Good T r sz ops tm0 s0)(hT:T.Ok E P)(hC:ybl E P r)(h0:Sim E D0 ρ0 s0 w0)(hI:Inv E D0 ρ0 w0 s0 tm0 sz p ops X ρ a w)(hi:i<ops.length)(hx: ¬ X i)
 (hcl: ∀ k,k<ops.length->X k-> ∀ j,p.nd k j=true->X j) (hnd: ∀ j,p.nd i j=true->X j) (hkept: ∀ j,j<i->p.Kept j) (hkd:p.run i=true->p.kd i=false) {K:Act->World->Prop} {Q:Exit->Act->World->Prop}
 (hK: ∀ ρ' a' w',Inv E D0 ρ0 w0 s0 tm0 sz p ops (fun m=>X m∨m=i) ρ' a' w'->p.Kept i->Fr p s0 ops.length X i ρ w ρ' w'->K a' w'):wpOp P ⟨ops⟩ Q i K a w:=by
 obtain ⟨o,ho⟩: ∃ o,ops[i]?=some o:=⟨ops[i],List.getElem?_eq_getElem _⟩
 have hoA:(⟨ops⟩:Array Oper)[i]?=some o:=by simpa using ho
 obtain ⟨hsin,rT,aft⟩:=zg6 g h0 hI hi hx ho hcl hnd hkept
 have hw:=zdm (E:=E) (D:=Din p D0 i) (ρ:=ρ) (a:=a) (g.wan i o ho) fun j want o' d h1 h2 h3=>rT d (zgd h1 h2 h3)
 have after: ∀ v' ρ1 D1 w1,Rv E D1 ρ1 (p.v i) v'->Sim E D1 ρ1 (p.out i) w1->Ex (Din p D0 i) ⟨p.inp i,p.base i,[]⟩ ρ w D1 (p.out i) ρ1 w1->K (a.put o.dst v') w1:=fun v' ρ1 D1 w1 hv hs hxx=>by
  obtain ⟨ρ2,h1,h2,h3,_⟩:=aft v' ρ1 D1 w1 hv hs hxx
  exact hK ρ2 _ w1 h1 h2 h3
 unfold wpOp
 rw [hoA]
 dsimp only
 cases hr:p.run i
 ·rw [hr] at hw
  rw [if_neg (by rw [hw];simp)]
  obtain ⟨h1,h2,h3⟩:=g.no i hi hr
  refine after undef ρ (Din p D0 i) w (by rw [h1];exact .tuple _ _ .nil) ?_ ?_
  ·rw [h2,<-h3];exact hsin
  ·rw [h2]
   have:=Ex.refl hsin
   rw [h3] at this ⊢
   exact this
 ·rw [hr] at hw
  rw [if_pos hw]
  left
  classical
  have hy:=g.yes i o ho hr (hkd hr)
  have hev: ∀ y,Rv E (Din p D0 i) ρ (if y∈o.op.operands then aev (p.tmS i) y else .chan none) (a.eval y):=fun y=>by
   by_cases hm:y∈o.op.operands
   ·rw [if_pos hm]
    cases y with
    |tmp t=>exact rT t (zmd hm)
    |const v=>exact zfb (tm:= .leaf) (a:=⟨#[],[]⟩) hsin (fun t=> .tuple _ _ .nil) (.const v)
    |global q=>exact zfb (tm:= .leaf) (a:=⟨#[],[]⟩) hsin (fun t=> .tuple _ _ .nil) (.global q)
    |func f=>exact zfb (tm:= .leaf) (a:=⟨#[],[]⟩) hsin (fun t=> .tuple _ _ .nil) (.func f)
   ·rw [if_neg hm];exact .poison _
  rw [zka (eg:=fun y=>if y∈o.op.operands then aev (p.tmS i) y else .chan none) fun y hm=>(if_pos hm).symm] at hy
  exact zlu hT hC hy hsin hev fun v' ρ1 D1 w1 h1 h2 h3=>after v' ρ1 D1 w1 h1 h2 h3
end
section
variable {P:Program}{ops:Array Oper}{i:Nat}{K:Act->World->Prop}{a:Act}{w:World}
theorem yqd (h:wpOp P ops (fun _ _ _=>False) i K a w): ∃ a' w',K a' w':=by
 have hlo: ¬ LetsOut (fun (_:Exit) (_:Act) (_:World)=>False):=fun ⟨_,_,h⟩=>h
 unfold wpOp at h
 split at h
 ·exact ⟨_,_,h⟩
 ·rename_i o ho
  split at h
  ·rcases h with h|⟨_,h⟩
   ·unfold Oper.wp at h
    generalize (execOp a.eval o).run P w=rr at h
    cases rr with
    |ok n w'=>
     cases n<;>simp only [Oper.upon] at h
     case value v=>exact ⟨_,_,h⟩
     case skip=>exact ⟨_,_,h⟩
     case defer d=>exact ⟨_,_,h⟩
     case enter f args=>
      obtain ⟨e,w'',fr,hR,_⟩:=h []
      cases e with
      |returned v=>exact ⟨_,_,hR⟩
      |panicked c=>exact hR.elim
      |outgrown=>exact (hlo hR).elim
     case row row args=>
      obtain ⟨v,w'',hR,_⟩:=h default []
      exact ⟨_,_,hR⟩
    |halt x w'=>
     cases x<;>simp only [Oper.upon] at h
   ·exact (hlo h).elim
  ·exact ⟨_,_,h⟩
end
section
variable {E:Ev}{P:Program}{T:Tbl}{r:Rn}{sz:Nat}{ops:List Oper}{tm0:Tm}{s0:ASt}{p:Plan}{D0:Nat->Prop}{ρ0 ρ:Nat->Pl}{w0 w:World}{a0 a:Act}{X Y:Nat->Prop}{i:Nat}{Q:Exit->Act->World->Prop}
theorem inv0 (h:St E D0 ρ0 sz s0 tm0 a0 w0):Inv E D0 ρ0 w0 s0 tm0 sz p ops (fun _=>False) ρ0 a0 w0:=by
 have hA: ∀ b,AX p s0 (fun _=>False) ops.length b=s0.heap.get b/\DX p D0 (fun _=>False) ops.length b=D0:=fun b=>zdb (i:=0) ops.length (Nat.zero_le _) fun _ _ _ h=>h.elim
 have hV: ∀ t,VX p ops tm0 (fun _=>False) ops.length t=yln tm0 t/\TX p ops D0 (fun _=>False) ops.length t=D0:=fun t=>zhp (i:=0) ops.length (Nat.zero_le _) fun _ _ _ h=>h.elim
 refine ⟨h.size,h.defers,fun t=>?_,fun b o hb=>?_,fun b o hb=>?_,fun b o hb=>?_,fun b c o o' hb hc=>?_,fun _ _=>rfl,rfl,rfl,rfl,qV _,fun _ _ _=>rfl,fun b o h1 hb=>?_,fun b o h1 hb=>?_,fun _ _ _ _ h=>h.elim,fun _ _ h=>h.elim,fun x k ob hk=>⟨(h.sim.prot x k ob hk).1,fun b o hb=>?_⟩,fun _ _ _ h=>h.elim,fun _ _=>rfl⟩
 ·rw [(hV t).1,(hV t).2];exact h.tr t
 ·rw [(hA b).1] at hb;rw [(hA b).2];exact h.sim.bd b o hb
 ·rw [(hA b).1] at hb;rw [(hA b).2];exact h.sim.lt b o hb
 ·rw [(hA b).1] at hb;exact h.sim.inh b o hb
 ·rw [(hA b).1] at hb;rw [(hA c).1] at hc;exact h.sim.apart b c o o' hb hc
 ·rw [(hA b).1] at hb;exact absurd (h.sim.low b o hb) qF
 ·rw [(hA b).1] at hb;exact ⟨o,hb⟩
 ·rw [(hA b).1] at hb;exact (h.sim.prot x k ob hk).2 b o hb
structure Kp (E:Ev)(P:Program)(T:Tbl)(r:Rn)(sz:Nat)(ops:List Oper)(tm0:Tm)(s0:ASt)(p:Plan)(D0:Nat->Prop)(ρ0:Nat->Pl)(w0:World)(a0:Act)(J:(Nat->Prop)->(Nat->Pl)->Act->World->Prop):Prop where
 inv: ∀ X ρ a w,J X ρ a w->Inv E D0 ρ0 w0 s0 tm0 sz p ops X ρ a w
 beg:J (fun _=>False) ρ0 a0 w0
 step: ∀ X i ρ a w (K:Act->World->Prop) (Q:Exit->Act->World->Prop),J X ρ a w->i<ops.length-> ¬ X i->(∀ k,k<ops.length->X k-> ∀ j,p.nd k j=true->X j)->(∀ j,p.nd i j=true->X j)->(∀ j,j<i->p.Kept j)->(∀ ρ' a' w',J (fun m=>X m∨m=i) ρ' a' w'->p.Kept i->K a' w')->wpOp P ⟨ops⟩ Q i K a w
variable {J:(Nat->Prop)->(Nat->Pl)->Act->World->Prop}
theorem zo6 {J:(Nat->Prop)->(Nat->Pl)->Act->World->Prop}(h:J X ρ a w)(e: ∀ m,X m↔Y m):J Y ρ a w:=by
 have:X=Y:=funext fun m=>propext (e m)
 rw [<-this];exact h
theorem ymj (g:p.Good T r sz ops tm0 s0)(hT:T.Ok E P)(hC:ybl E P r)(h0:St E D0 ρ0 sz s0 tm0 a0 w0)(hkd: ∀ k,k<ops.length->p.run k=true->p.kd k=false):Kp E P T r sz ops tm0 s0 p D0 ρ0 w0 a0 (Inv E D0 ρ0 w0 s0 tm0 sz p ops):=
 ⟨fun _ _ _ _ h=>h,inv0 h0,fun X i ρ a w K Q hI hi hx hcl hnd hkept hK=>zg7 g hT hC h0.sim hI hi hx hcl hnd hkept (hkd i hi) fun ρ' a' w' h1 h2 _=>hK ρ' a' w' h1 h2⟩
theorem zn6 (g:p.Good T r sz ops tm0 s0)(kp:Kp E P T r sz ops tm0 s0 p D0 ρ0 w0 a0 J): ∀ k,k<=ops.length->(∃ ρ a w,J (fun m=>m<k) ρ a w)/\ ∀ j,j<k->p.Kept j
 |0,_=>⟨⟨ρ0,a0,w0,zo6 kp.beg fun m=>by simp⟩,fun j hj=>absurd hj qF⟩
 |k+1,hk=>by
  obtain ⟨⟨ρ,a,w,hI⟩,hK⟩:=zn6 g kp k qF
  have:=kp.step (fun m=>m<k) k ρ a w (fun a' w'=> ∃ ρ',J (fun m=>m<k∨m=k) ρ' a' w'/\p.Kept k) (fun _ _ _=>False) hI (show k<ops.length by omega) qF (fun m hm hmk j hj=>by have:=g.lt m j hm hj;omega) (fun j hj=>g.lt k j qF hj) hK (fun ρ' a' w' h1 h2=>⟨ρ',h1,h2⟩)
  obtain ⟨a',w',ρ',h1,h2⟩:=yqd this
  refine ⟨⟨ρ',a',w',zo6 h1 fun m=>by omega⟩,fun j hj=>?_⟩
  rcases Nat.lt_or_ge j k with h3|h3
  ·exact hK j h3
  ·have:j=k:=by omega
   rw [this];exact h2
theorem zo3 (g:p.Good T r sz ops tm0 s0){x:Nat}: ∀ n,n<=ops.length->s0.next<=x->x<p.base n-> ∃ m,m<n/\p.base m<=x/\x<p.base (m+1)
 |0,_,h1,h2=>by rw [g.b0] at h2;omega
 |n+1,hn,h1,h2=>by
  rcases Nat.lt_or_ge x (p.base n) with h|h
  ·obtain ⟨m,h3,h4⟩:=zo3 g n qF h1 h
   exact ⟨m,by omega,h4⟩
  ·exact ⟨n,by omega,h,h2⟩
def ym2 (p:Plan)(n:Nat)(D0:Nat->Prop):Nat->Prop:=fun x=>D0 x∨ ∃ j,j<n/\p.base j<=x/\x<p.base (j+1)
theorem zo5 (g:p.Good T r sz ops tm0 s0)(kp:Kp E P T r sz ops tm0 s0 p D0 ρ0 w0 a0 J)(h0:St E D0 ρ0 sz s0 tm0 a0 w0){tcF:List Nat}(htc: ∀ b,b∈tcF↔(∃ k,k<ops.length/\b∈(p.out k).tc)∨b∈s0.tc)(hI:Inv E D0 ρ0 w0 s0 tm0 sz p ops (fun m=>m<ops.length) ρ a w):
 St E (ym2 p ops.length D0) ρ sz ⟨p.hpS ops.length,p.base ops.length,tcF⟩ (p.tmS ops.length) a w/\Ex D0 s0 ρ0 w0 (ym2 p ops.length D0) ⟨p.hpS ops.length,p.base ops.length,tcF⟩ ρ w:=by
 have hkept:=(zn6 g kp ops.length (qV _)).2
 have hhp: ∀ b,(p.hpS ops.length).get b=AX p s0 (fun m=>m<ops.length) ops.length b:=fun b=>by
  rw [zkr g ops.length (qV _) hkept]
  exact zci _ fun j hj _=>⟨fun _=>hj,fun _=>trivial⟩
 have dk: ∀ k x,k<ops.length->DK p D0 k x->ym2 p ops.length D0 x:=fun k x hk hd=>by
  rcases hd with hd|⟨j,hj,h1⟩
  ·exact .inl hd
  ·refine .inr ⟨j,?_,h1⟩
   rcases hj with rfl|hj
   ·exact hk
   ·have:=g.lt k j hk hj;omega
 have dx: ∀ b x,DX p D0 (fun m=>m<ops.length) ops.length b x->ym2 p ops.length D0 x:=fun b x hd=>by
  rcases zli _ hd with hd|⟨k,h1,_,_,h3⟩
  ·exact .inl hd
  ·exact dk k x h1 h3
 have tx: ∀ b x,TX p ops D0 (fun m=>m<ops.length) ops.length b x->ym2 p ops.length D0 x:=fun b x hd=>by
  rcases zlj _ hd with hd|⟨k,h1,_,_,h3⟩
  ·exact .inl hd
  ·exact dk k x h1 h3
 have hb0:s0.next<=p.base ops.length:=by rw [<-g.b0];exact zaz g (Nat.zero_le _) (qV _)
 have hdn: ∀ x,ym2 p ops.length D0 x->x<p.base ops.length:=fun x hd=>by
  rcases hd with hd|⟨j,hj,h1,h2⟩
  ·exact qQ (h0.sim.dn x hd) hb0
  ·exact qQ h2 (zaz g qF (qV _))
 refine ⟨⟨⟨fun b o hb=>?_,hdn,fun b o hb=>?_,fun b o hb=>?_,fun b c o o' hb hc=>?_,fun q hq=> .inl (h0.sim.gl q hq),fun q hq=>?_,fun x k ob hk=>⟨(hI.prot x k ob hk).1,fun b o hb=>(hI.prot x k ob hk).2 b o ((hhp b).symm.trans hb)⟩⟩,fun t=>?_,hI.size,hI.defers⟩,⟨hb0,fun x h=> .inl h,fun x hd=>?_,hI.old,fun b o hb ho=>?_,fun b o hb ho hl=>?_,fun b hb=>(htc b).2 (.inr hb),hI.os,hI.tape,hI.output,hI.hsize,fun k hk hf=>?_,fun b hb hn=>?_,fun b o h1 h2 h3=>?_,fun b h1 h2=>?_,fun x h1 h2 k ob hk=>?_,hI.far⟩⟩
 ·rw [zav,hhp] at hb;exact dx b b (hI.ltd b o hb)
 ·rw [zav,hhp] at hb;exact (hI.bd b o hb).kept (dx b) (fun _ _=>rfl) (fun _=>rfl)
 ·rw [zav,hhp] at hb;exact hI.inh b o hb
 ·rw [zav,hhp] at hb hc;exact hI.apart b c o o' hb hc
 ·rw [hI.old q (h0.sim.dn q (h0.sim.gl q hq))];exact h0.sim.glob q hq
 ·have h1:=yp3 g (t:=t) ops.length (qV _)
  have h2:=zfh (p:=p) (ops:=ops) (tm0:=tm0) (D0:=D0) (X:=fun _=>True) (Y:=fun m=>m<ops.length) (t:=t) ops.length fun j hj _=>⟨fun _=>hj,fun _=>trivial⟩
  have h3:=(hI.tr t).mono (tx t) fun _ _=>rfl
  rw [<-h2.1,<-h1] at h3
  exact h3
 ·rcases hd with hd|⟨j,hj,h1,h2⟩
  ·exact .inl hd
  ·right
   have:=zaz g (Nat.zero_le j) qF
   rw [g.b0] at this
   omega
 ·rw [zav,hhp] at ho;exact hI.dead b o hb ho
 ·rw [zav,hhp] at ho
  obtain ⟨c,⟨m,hm,_,hc⟩,h3⟩:=hI.born b o hb ho hl
  exact ⟨c,(htc c).2 (.inl ⟨m,hm,hc⟩),h3⟩
 ·exact hI.frame k hk fun b m hm _ hb o ho=>hf b ((htc b).2 (.inl ⟨m,hm,hb⟩)) o ho
 ·rw [zav,hhp]
  exact (zdb (p:=p) (s0:=s0) (D0:=D0) (X:=fun m=>m<ops.length) (b:=b) (i:=0) ops.length (Nat.zero_le _) fun j _ h4 _ haj=>by
   rcases haj with h5|h5
   ·have:s0.next<=p.base j:=by rw [<-g.b0];exact zaz g (Nat.zero_le _) qF
    omega
   ·exact hn ((htc b).2 (.inl ⟨j,h4,h5⟩))).1
 ·rcases (htc b).1 h1 with ⟨m,hm,hb⟩|hb
  ·exact hI.twr b m o hm hm hb h3
  ·exact absurd hb h2
 ·rcases (htc b).1 h1 with ⟨m,hm,hb⟩|hb
  ·rcases (hkept m hm).2.2 b hb with ⟨x,hx⟩|⟨h3,h4⟩
   ·obtain ⟨⟨ρm,am,wm,hJm⟩,hKm⟩:=zn6 g kp m qF
    have hIm:=kp.inv _ _ _ _ hJm
    have h5:=(g.inq m b x hm hx).1
    rw [zkr g m qF hKm] at h5
    have h6:AX p s0 (fun j=>j<m) ops.length b=some x:=by
     rw [<-h5,(zdb (p:=p) (s0:=s0) (D0:=D0) (X:=fun j=>j<m) (b:=b) (i:=m) ops.length qF fun j h7 _ h8=>by omega).1]
     exact zci _ fun j hj _=>⟨fun _=>trivial,fun _=>hj⟩
    rcases Nat.lt_or_ge b s0.next with h7|h7
    ·exact .inl ⟨hIm.dead b x h7 h6,h7⟩
    ·refine .inr ⟨h7,?_⟩
     have:=yiv g m qF (fun j hj _=>hKm j hj) h5
     exact qQ this (zaz g qF (qV _))
   ·refine .inr ⟨?_,qQ h4 (zaz g qF (qV _))⟩
    have:s0.next<=p.base m:=by rw [<-g.b0];exact zaz g (Nat.zero_le _) qF
    show s0.next<=b
    omega
  ·exact absurd hb h2
 ·obtain ⟨m,h3,h4,h5⟩:=zo3 g ops.length (qV _) h1 h2
  exact hI.snew x m h3 h3 h4 h5 k ob hk
theorem yq5 (g:p.Good T r sz ops tm0 s0)(kp:Kp E P T r sz ops tm0 s0 p D0 ρ0 w0 a0 J)(hQ: ∀ ρ a w,J (fun m=>m<ops.length) ρ a w->Q .normal a w):
 ∀ (fuel:Nat) (listed:Array Bool),listed.size=ops.length->listed.toList.countP (· ==false)=fuel->(∀ k,k<ops.length->listed[k]?=some true-> ∀ j,p.nd k j=true->listed[j]?=some true)->
  ∀ (ρ:Nat->Pl) (a:Act) (w:World),J (fun m=>listed[m]?=some true) ρ a w->wpAny P .any ⟨ops⟩ Q fuel listed a w:=by
 have hkept:=(zn6 g kp ops.length (qV _)).2
 have hall: ∀ listed:Array Bool,listed.size=ops.length->Region.ready .any (⟨ops⟩:Array Oper) listed= []-> ∀ m,m<ops.length->listed[m]?=some true:=fun listed hs hr m=>by
  induction m using Nat.strongRecOn with
  |_ m ih=>
   intro hm
   cases hb:listed[m]? with
   |none=>rw [Array.getElem?_eq_none_iff] at hb;omega
   |some b=>
    cases b with
    |true=>rfl
    |false=>
     exfalso
     obtain ⟨o,ho⟩: ∃ o,ops[m]?=some o:=⟨ops[m],List.getElem?_eq_getElem _⟩
     have:m∈Region.ready .any (⟨ops⟩:Array Oper) listed:=mem_ready.2 ⟨by rw [Array.getD_eq_getD_getElem?,hb];rfl,o,by simpa using ho,fun e he hbd=>by
      have h1:=(g.dir m o ho e he hbd).1
      rw [Array.getD_eq_getD_getElem?,ih e.on h1 qF];rfl⟩
     rw [hr] at this
     cases this
 have hfin: ∀ listed:Array Bool,listed.size=ops.length->Region.ready .any (⟨ops⟩:Array Oper) listed= []-> ∀ ρ a w,J (fun m=>listed[m]?=some true) ρ a w->Q .normal a w:=fun listed hs hr ρ a w hI=>by
  refine hQ ρ a w (zo6 hI fun m=>⟨fun h=>?_,fun h=>hall listed hs hr m h⟩)
  have:=(Array.getElem?_eq_some_iff.1 h).1
  omega
 intro fuel
 induction fuel with
 |zero=>
  intro listed hs hc hcl ρ a w hI
  have hr:Region.ready .any (⟨ops⟩:Array Oper) listed= []:=by
   rw [List.eq_nil_iff_forall_not_mem]
   intro m hm
   obtain ⟨h1,o,ho,_⟩:=mem_ready.1 hm
   have hlt:m<listed.size:=by
    rcases Nat.lt_or_ge m listed.size with h|h
    ·exact h
    ·rw [Array.getD_eq_getD_getElem?,Array.getElem?_eq_none h] at h1;cases h1
   have hf:listed[m]=false:=by
    rw [Array.getD_eq_getD_getElem?,Array.getElem?_eq_getElem hlt] at h1;exact h1
   have:=List.countP_eq_zero.1 hc (listed[m]) qH
   rw [hf] at this
   exact this rfl
  exact ⟨hr,hfin listed hs hr ρ a w hI⟩
 |succ fuel ih=>
  intro listed hs hc hcl ρ a w hI
  refine ⟨fun hr=>hfin listed hs hr ρ a w hI,fun i hi=>?_⟩
  obtain ⟨h1,o,ho,hdep⟩:=mem_ready.1 hi
  have hlt:i<listed.size:=by
   rcases Nat.lt_or_ge i listed.size with h|h
   ·exact h
   ·rw [Array.getD_eq_getD_getElem?,Array.getElem?_eq_none h] at h1;cases h1
  have hf:listed[i]=false:=by
   rw [Array.getD_eq_getD_getElem?,Array.getElem?_eq_getElem hlt] at h1;exact h1
  have hin:i<ops.length:=by omega
  have hoL:ops[i]?=some o:=by simpa using ho
  have hXi: ¬ listed[i]?=some true:=by rw [Array.getElem?_eq_getElem hlt,hf];simp
  have hdepX: ∀ e∈o.after,Region.binds .any e=true->listed[e.on]?=some true:=fun e he hb=>by
   have:=hdep e he hb
   rw [Array.getD_eq_getD_getElem?] at this
   cases hx:listed[e.on]? with
   |none=>rw [hx] at this;cases this
   |some b=>rw [hx] at this;have:b=true:=this;rw [this]
  have hnd: ∀ j,p.nd i j=true->listed[j]?=some true:=fun j hj=>by
   obtain ⟨e,he,hb,h2⟩:=g.up i o j hoL hj
   rcases h2 with rfl|h2
   ·exact hdepX e he hb
   ·have h3:=hdepX e he hb
    have h4:=(Array.getElem?_eq_some_iff.1 h3).1
    exact hcl e.on qF h3 j h2
  refine kp.step _ i ρ a w _ Q hI hin hXi hcl hnd (fun j hj=>hkept j qF) fun ρ' a' w' hI' _=>?_
  have hset: ∀ m,(listed.setIfInBounds i true)[m]?=some true↔(listed[m]?=some true∨m=i):=fun m=>by
   rw [Array.getElem?_setIfInBounds]
   by_cases e:i=m
   ·subst e;rw [if_pos rfl,if_pos hlt];simp
   ·rw [if_neg e];exact ⟨.inl,fun h=>h.resolve_right fun e2=>e e2.symm⟩
  refine ih _ (by simpa using hs) ?_ ?_ ρ' a' w' (zo6 hI' fun m=>(hset m).symm)
  ·rw [Array.toList_setIfInBounds,List.countP_set (h:=by simpa using hlt)]
   have:(listed.toList[i]'(by simpa using hlt)==false)=true:=by simp [hf]
   rw [hc,if_pos this]
   simp
  ·intro k hk hX j hj
   rw [hset] at hX ⊢
   rcases hX with hX|rfl
   ·exact .inl (hcl k hk hX j hj)
   ·exact .inl (hnd j hj)
theorem zms (g:p.Good T r sz ops tm0 s0)(kp:Kp E P T r sz ops tm0 s0 p D0 ρ0 w0 a0 J)(hQ: ∀ ρ a w,J (fun m=>m<ops.length) ρ a w->Q .normal a w):
 wpAny P .any ⟨ops⟩ Q ops.length (Array.replicate ops.length false) a0 w0:=by
 refine yq5 g kp hQ ops.length _ qH ?_ ?_ ρ0 a0 w0 (zo6 kp.beg fun m=>?_)
 ·simp [List.countP_replicate]
 ·intro k hk hX
  rw [Array.getElem?_replicate] at hX
  split at hX
  ·cases hX
  ·cases hX
 ·rw [Array.getElem?_replicate]
  constructor
  ·intro h;exact h.elim
  ·intro h;split at h<;>cases h
theorem ype (g:p.Good T r sz ops tm0 s0)(hT:T.Ok E P)(hC:ybl E P r)(h0:St E D0 ρ0 sz s0 tm0 a0 w0)(hkd: ∀ k,k<ops.length->p.run k=true->p.kd k=false){tcF:List Nat}(htc: ∀ b,b∈tcF↔(∃ k,k<ops.length/\b∈(p.out k).tc)∨b∈s0.tc)
 (hQ: ∀ D' ρ' a' w',St E D' ρ' sz ⟨p.hpS ops.length,p.base ops.length,tcF⟩ (p.tmS ops.length) a' w'->Ex D0 s0 ρ0 w0 D' ⟨p.hpS ops.length,p.base ops.length,tcF⟩ ρ' w'->Q .normal a' w'):
 wpAny P .any ⟨ops⟩ Q ops.length (Array.replicate ops.length false) a0 w0:=by
 refine zms g (ymj g hT hC h0 hkd) fun ρ a w hI=>?_
 obtain ⟨h1,h2⟩:=zo5 g (ymj g hT hC h0 hkd) h0 htc hI
 exact hQ _ ρ a w h1 h2
end
theorem ziv {a b:ByteArray}:(a==b)=true↔a=b:=by
 obtain ⟨a⟩:=a;obtain ⟨b⟩:=b
 constructor
 ·intro h
  have h:(a==b)=true:=h
  rw [eq_of_beq h]
 ·intro h
  cases h
  show (a==a)=true
  simp
structure Pend (p:Plan)(P:Program)(ops:List Oper)(mk:Nat)(kv:Nat->Option (ByteArray × Value)):Prop where
 mkl:mk<ops.length
 mkr:p.run mk=true
 mkk:p.kd mk=true
 mko: ∃ o t,ops[mk]?=some o/\o.op= .makeMap t none
 mkv:p.v mk= .map (some (p.base mk))
 mkh:p.out mk=⟨p.inp mk,p.base mk+1,[]⟩
 ins: ∀ k o,ops[k]?=some o->p.run k=true->p.kd k=true->k≠mk-> ∃ t m key x kt et kk,o.op= .insert t m key x/\P.underlying t=some (.map kt et)/\P.underlying kt=some .string/\aev (p.tmS k) m= .map (some (p.base mk))/\aev (p.tmS k) key= .string kk/\kv k=some (kk,aev (p.tmS k) x)/\p.v k= .tuple ⟨[]⟩/\p.out k=⟨p.inp k,p.base k,[]⟩
 only: ∀ k e,kv k=some e->k<ops.length/\p.run k=true/\p.kd k=true/\k≠mk
 aft: ∀ k e,kv k=some e->p.nd k mk=true
 dis: ∀ j k e e',kv j=some e->kv k=some e'->e.1=e'.1->j=k
def PM (E:Ev)(D0:Nat->Prop)(w0:World)(s0:ASt)(p:Plan)(n mk:Nat)(kv:Nat->Option (ByteArray × Value))(X:Nat->Prop)(ρ:Nat->Pl)(w:World):Prop:=
 X mk-> ∃ es clk,w.heap[(ρ (p.base mk)).blk]?=some (.map es clk)/\w0.heap.size<=(ρ (p.base mk)).blk/\(∀ c o,AX p s0 X n c=some o->(ρ c).blk≠(ρ (p.base mk)).blk)/\(∀ x k ob,(ρ x).snap k=some ob->k≠(ρ (p.base mk)).blk)/\
  (∀ k kk v,X k->kv k=some (kk,v)-> ∃ j v',Instr.findNow .string (.string kk) es.toList 0=some (some (j,v'))/\Rv E (DK p D0 k) ρ v v')/\
  ∀ kk,(∀ k v,X k->kv k≠some (kk,v))->Instr.findNow .string (.string kk) es.toList 0=some none
section
variable {E:Ev}{P:Program}{T:Tbl}{r:Rn}{sz:Nat}{ops:List Oper}{tm0:Tm}{s0:ASt}{p:Plan}{D0:Nat->Prop}{ρ0 ρ ρ':Nat->Pl}{w0 w w':World}{a0 a:Act}{X:Nat->Prop}{i mk:Nat}{kv:Nat->Option (ByteArray × Value)}
theorem Inv.turn (h:Inv E D0 ρ0 w0 s0 tm0 sz p ops X ρ a w){b:Nat}{x:Obj}(hb:w0.heap.size<=b)(hno: ∀ c o,AX p s0 X ops.length c=some o->(ρ c).blk≠b)(hns: ∀ x k ob,(ρ x).snap k=some ob->k≠b):
 Inv E D0 ρ0 w0 s0 tm0 sz p ops X ρ a { w with heap := w.heap.setIfInBounds b x } :=
 { h with
  bd:=fun c o hc=>(h.bd c o hc).kept (fun _ h=>h) (fun _ _=>rfl) (fun _=>by
   show (w.heap.setIfInBounds b x)[_]?=_
   rw [Array.getElem?_setIfInBounds,if_neg (fun e=>hno c o hc e.symm)])
  inh:=fun c o hc=>by
   show _<(w.heap.setIfInBounds b x).size
   rw [Array.size_setIfInBounds];exact h.inh c o hc
  prot:=fun y k ob hk=>⟨by
   show (w.heap.setIfInBounds b x)[k]?=_
   rw [Array.getElem?_setIfInBounds,if_neg (fun e=>hns y k ob hk e.symm)];exact (h.prot y k ob hk).1,(h.prot y k ob hk).2⟩
  os:=h.os
  tape:=h.tape
  output:=h.output
  hsize:=by
   show _<=(w.heap.setIfInBounds b x).size
   rw [Array.size_setIfInBounds];exact h.hsize
  frame:=fun k hk hf=>by
   show (w.heap.setIfInBounds b x)[k]?=_
   rw [Array.getElem?_setIfInBounds,if_neg qF];exact h.frame k hk hf}
theorem zjh (g:p.Good T r sz ops tm0 s0)(hi:i<ops.length){j x:Nat}(hj:j<ops.length)(hne:j≠i)(h1:p.base j<=x)(h2:x<p.base (j+1)): ¬ (p.base i<=x/\x<p.base (i+1)):=fun ⟨h3,h4⟩=>by
 rcases Nat.lt_or_gt_of_ne hne with hlt|hlt
 ·have:=zaz g (show j+1<=i by omega) qF;omega
 ·have:=zaz g (show i+1<=j by omega) qF;omega
theorem yjk (g:p.Good T r sz ops tm0 s0)(h0:Sim E D0 ρ0 s0 w0)(hi:i<ops.length)(hx: ¬ X i)(hcl: ∀ k,k<ops.length->X k-> ∀ j,p.nd k j=true->X j)(k x:Nat)(hk:k<ops.length)(hX:X k)(hd:DK p D0 k x): ¬ (p.base i<=x/\x<p.base (i+1)):=by
 have hbi:s0.next<=p.base i:=by rw [<-g.b0];exact zaz g (Nat.zero_le _) qF
 rcases hd with hd|⟨j,hj,h1,h2⟩
 ·have:=h0.dn x hd
  intro h;omega
 ·have hjX:X j:=by
   rcases hj with rfl|hj
   ·exact hX
   ·exact hcl k hk hX j hj
  have hjn:j<ops.length:=by
   rcases hj with rfl|hj
   ·exact hk
   ·have:=g.lt k j hk hj;omega
  exact zjh g hi hjn (fun e=>hx (e ▸ hjX)) h1 h2
theorem Pend.next (q:Pend p P ops mk kv)(g:p.Good T r sz ops tm0 s0):p.base (mk+1)=p.base mk+1:=by
 have:=g.bo mk q.mkl
 rw [q.mkh] at this
 exact this.symm
theorem PM.fr (g:p.Good T r sz ops tm0 s0)(q:Pend p P ops mk kv)(h0:Sim E D0 ρ0 s0 w0)(hi:i<ops.length)(hx: ¬ X i)(hcl: ∀ k,k<ops.length->X k-> ∀ j,p.nd k j=true->X j)
 (h:PM E D0 w0 s0 p ops.length mk kv X ρ w) (hf:Fr p s0 ops.length X i ρ w ρ' w') (hne:i≠mk) (hkv:kv i=none):PM E D0 w0 s0 p ops.length mk kv (fun m=>X m∨m=i) ρ' w':=fun hm=>by
 obtain ⟨es,clk,h1,h2,h3,hs3,h4,h5⟩:=h (hm.resolve_right fun e=>hne e.symm)
 obtain ⟨f1,f2,f3,f4⟩:=hf
 have e:ρ' (p.base mk)=ρ (p.base mk):=f1 _ (zjh g hi q.mkl (Ne.symm hne) (qV _) (by rw [q.next g];omega))
 obtain ⟨k1,k2⟩:=f3 _ (Array.getElem?_eq_some_iff.1 h1).1 h3
 refine ⟨es,clk,by rw [e,k1];exact h1,by rw [e];exact h2,fun c o hc=>by rw [e];exact k2 c o hc,fun x k ob hk=>?_,fun k kk v hk hv=>?_,fun kk hk=>h5 kk fun k v hX=>hk k v (.inl hX)⟩
 ·rw [e]
  by_cases hr:p.base i<=x/\x<p.base (i+1)
  ·have h6:=f4 x hr.1 hr.2 k ob hk
   have h7:=(Array.getElem?_eq_some_iff.1 h1).1
   omega
  ·rw [f1 x hr] at hk
   exact hs3 x k ob hk
 rcases hk with hk|rfl
 ·obtain ⟨j,v',h6,h7⟩:=h4 k kk v hk hv
  exact ⟨j,v',h6,h7.mono (fun _ h=>h) fun x hx1=>f1 x (yjk g h0 hi hx hcl k x (q.only k _ hv).1 hk hx1)⟩
 ·rw [hkv] at hv;cases hv
theorem zj1 {o:Oper}{n:Next}{v':Value}{w1:World}{K:Act->World->Prop}{Q:Exit->Act->World->Prop}(h1:(execOp a.eval o).run P w= .ok n w1)(h2:n= .value v'∨(n= .skip/\v'=undef))(hK:K (a.put o.dst v') w1):o.wp P a w K Q:=by
 unfold Oper.wp
 rw [h1]
 rcases h2 with rfl|⟨rfl,rfl⟩<;>exact hK
theorem zky (g:p.Good T r sz ops tm0 s0)(q:Pend p P ops mk kv)(hT:T.Ok E P)(hC:ybl E P r)(h0:St E D0 ρ0 sz s0 tm0 a0 w0):
 Kp E P T r sz ops tm0 s0 p D0 ρ0 w0 a0 (fun X ρ a w=>Inv E D0 ρ0 w0 s0 tm0 sz p ops X ρ a w/\PM E D0 w0 s0 p ops.length mk kv X ρ w):=by
 refine ⟨fun _ _ _ _ h=>h.1,⟨inv0 h0,fun h=>h.elim⟩,?_⟩
 rintro X i ρ a w K Q ⟨hI,hM⟩ hi hx hcl hnd hkept hK
 by_cases hk:p.run i=true/\p.kd i=true
 ·obtain ⟨hr,hkd⟩:=hk
  obtain ⟨o,ho⟩: ∃ o,ops[i]?=some o:=⟨ops[i],List.getElem?_eq_getElem _⟩
  have hoA:(⟨ops⟩:Array Oper)[i]?=some o:=by simpa using ho
  obtain ⟨hsin,rT,aft⟩:=zg6 g h0.sim hI hi hx ho hcl hnd hkept
  have hw:=zdm (E:=E) (D:=Din p D0 i) (ρ:=ρ) (a:=a) (g.wan i o ho) fun j want o' d h1 h2 h3=>rT d (zgd h1 h2 h3)
  rw [hr] at hw
  have hev: ∀ y,y∈o.op.operands->Rv E (Din p D0 i) ρ (aev (p.tmS i) y) (a.eval y):=fun y hm=>by
   cases y with
   |tmp t=>exact rT t (zmd hm)
   |const v=>exact zfb (tm:= .leaf) (a:=⟨#[],[]⟩) hsin (fun t=> .tuple _ _ .nil) (.const v)
   |global q=>exact zfb (tm:= .leaf) (a:=⟨#[],[]⟩) hsin (fun t=> .tuple _ _ .nil) (.global q)
   |func f=>exact zfb (tm:= .leaf) (a:=⟨#[],[]⟩) hsin (fun t=> .tuple _ _ .nil) (.func f)
  have din: ∀ k,∀ x,Din p D0 k x->DK p D0 k x:=fun k x hd=>hd.imp id fun ⟨j,h1,h2⟩=>⟨j, .inr h1,h2⟩
  unfold wpOp
  rw [hoA]
  dsimp only
  rw [if_pos hw]
  left
  by_cases hmk:i=mk
  ·subst hmk
   obtain ⟨o',t,ho',hop⟩:=q.mko
   rw [ho] at ho'
   cases ho'
   obtain ⟨ρ2,k1,k2,k3,k4⟩:=aft (.map (some w.heap.size)) (ych ρ (p.base i) (ya8 (w.heap.size) 0 (1) (0))) (ydf (Din p D0 i) (p.base i)) (w.alloc (.map #[] 0)) (by
    rw [q.mkv]
    have:=Rv.map (E:=E) (D:=ydf (Din p D0 i) (p.base i)) (ρ:=ych ρ (p.base i) (ya8 (w.heap.size) 0 (1) (0))) (p.base i) (.inr rfl)
    rwa [zao] at this) (by
    rw [q.mkh]
    refine ⟨fun b x hb=> .inl (hsin.lt b x hb),fun x hd=>?_,fun b x hb=>?_,fun b x hb=>?_,fun b c x y hb hc hne hwr=>?_,fun q hq=> .inl (hsin.gl q hq),fun q hq=>?_,fun x k ob hk=>?_⟩
    ·show x<p.base i+1
     rcases hd with hd|hd
     ·have h3:x<p.base i:=hsin.dn x hd
      omega
     ·omega
    ·rw [zam (hsin.low b x hb)]
     exact (hsin.bd b x hb).kept (fun j hj=> .inl hj) (fun j hj=>zam (hsin.dn j hj)) (fun hl=>Below.heap_alloc w _ _ hl)
    ·rw [zam (hsin.low b x hb)]
     have:=hsin.inh b x hb
     simp;omega
    ·rw [zam (hsin.low b x hb),zam (hsin.low c y hc)]
     exact hsin.apart b c x y hb hc hne hwr
    ·rw [zam (hsin.dn q (hsin.gl q hq))];exact hsin.glob q hq
    ·obtain ⟨h1,h2⟩:=hsin.prot x k ob (zen rfl x k ob hk)
     exact ⟨(Below.heap_alloc w _ _ (Array.getElem?_eq_some_iff.1 h1).1).trans h1,fun b y hb hwr=>by rw [zam (hsin.low b y hb)];exact h2 b y hb hwr⟩) (by
    rw [q.mkh]
    refine ⟨Nat.le_succ _,fun x h=> .inl h,fun x h=>h.imp id fun e=>Nat.le_of_eq e.symm,fun x h=>zam h,fun b x _ hb=>⟨x,hb⟩,fun b x h1 h2 _=>?_,fun _ h=>h,rfl,rfl,rfl,by simp,fun k hk _=>Below.heap_alloc w _ k hk,fun _ _ _=>rfl,fun _ _ h=>absurd h qH,fun _ h=>absurd h qH,fun x h1 h2 k ob hk=>(zds rfl h1 h2 hk).elim,fun x h1=>if_neg (by have h1:p.base i+1<=x:=h1;omega)⟩
    have:=hsin.low b x h2
    have h1:p.base i<=b:=h1
    have h3:b<p.base i:=this
    omega)
   have e2:(ρ2 (p.base i)).blk=w.heap.size:=by rw [k4 _ (by rw [q.next g];omega),zao]
   refine zj1 (n:= .value (.map (some w.heap.size))) (w1:=w.alloc (.map #[] 0)) ?_ (.inl rfl) (hK ρ2 _ _ ⟨k1,fun _=>⟨#[],0,by rw [e2];exact heap_alloc_new w _,by rw [e2];exact hI.hsize,fun c y hc=>?_,fun x k ob hk=>?_,fun k kk v hX hv=>?_,fun kk _=>rfl⟩⟩ k2)
   ·obtain ⟨dst,op,ty,pos,after,guard⟩:=o
    cases hop
    rw [ymc]
    simp [Instr.makeMap]
   ·rw [e2]
    have hin:p.out i=⟨p.inp i,p.base i+1,[]⟩:=q.mkh
    by_cases hb:c<p.base i
    ·have haff: ¬ p.aff i c:=fun ha=>by
      rcases ha with ha|ha
      ·omega
      ·rw [hin] at ha;cases ha
     rw [zci (Y:=X) _ fun j _ haj=>⟨fun h=>h.resolve_right fun e=>haff (e ▸ haj), .inl⟩] at hc
     rw [k3.1 c (fun h=>by omega)]
     exact Nat.ne_of_lt (hI.inh c y hc)
    ·by_cases haff:p.aff i c
     ·exfalso
      have h1:=zdb (p:=p) (s0:=s0) (D0:=D0) (X:=fun m=>X m∨m=i) (b:=c) (i:=i+1) ops.length qF fun j h3 h4 hX ha2=>by
       rcases hX with hX|hX
       ·exact zpj g hkept hI k2 hi hx hcl h4 hX qF haff ha2
       ·omega
      rw [h1.1,zdw,if_pos ⟨.inr rfl,haff⟩,hin] at hc
      have h3:c<p.base i:=hsin.low c y hc
      omega
     ·rw [zci (Y:=X) _ fun j _ haj=>⟨fun h=>h.resolve_right fun e=>haff (e ▸ haj), .inl⟩] at hc
      rw [k3.1 c (fun h=>haff (.inl h))]
      exact Nat.ne_of_lt (hI.inh c y hc)
   ·rw [e2]
    by_cases hr:p.base i<=x/\x<p.base (i+1)
    ·rw [k4 x hr.2] at hk
     exact (zds (ρ:=ρ) (p:=ya8 w.heap.size 0 1 0) rfl hr.1 (by rw [<-q.next g];exact hr.2) hk).elim
    ·rw [k3.1 x hr] at hk
     exact Nat.ne_of_lt (Array.getElem?_eq_some_iff.1 (hI.prot x k ob hk).1).1
   ·exfalso
    rcases hX with hX|hX
    ·exact hx (hcl k (q.only k _ hv).1 hX i (q.aft k _ hv))
    ·exact (q.only k _ hv).2.2.2 hX
  ·obtain ⟨t,m,key,x,kt,et,kk,hop,hu,hku,hm,hkey,hkv,hv,hout⟩:=q.ins i o ho hr hkd hmk
   obtain ⟨es,clk,h1,h2,h3,hs3,h4,h5⟩:=hM (hnd mk (q.aft i _ hkv))
   have em:a.eval m= .map (some (ρ (p.base mk)).blk):=by
    have:=hev m (by rw [hop];simp [Op.operands])
    rw [hm] at this
    generalize a.eval m=am at this
    cases this with
    |flat _ h=>cases h
    |map=>rfl
   have ek:a.eval key= .string kk:=by
    have:=hev key (by rw [hop];simp [Op.operands])
    rw [hkey] at this
    exact zbk this
   have ex:=hev x (by rw [hop];simp [Op.operands])
   have h6:=h5 kk fun k v hX hkv2=>hx (by rw [<-q.dis k i _ _ hkv2 hkv rfl];exact hX)
   have hlt:=(Array.getElem?_eq_some_iff.1 h1).1
   have hbase:p.base (i+1)=p.base i:=by
    have:=g.bo i hi
    rw [hout] at this;exact this.symm
   obtain ⟨ρ2,k1,k2,k3,k4⟩:=aft undef ρ (Din p D0 i) w (by rw [hv];exact .tuple _ _ .nil) (by rw [hout];exact hsin) (by rw [hout];exact Ex.refl hsin)
   have e2:ρ2=ρ:=funext fun y=>k3.1 y (fun h=>by omega)
   subst e2
   obtain ⟨_,f3⟩:=k3.2.2.1 _ hlt h3
   have hg:(getObj (ρ2 (p.base mk)).blk).run P w= .ok (.map es clk) w:=by simp [getObj,Sem.run,h1]
   have hset : ∀ o, (setObj (ρ2 (p.base mk)).blk o).run P w = .ok () { w with heap := w.heap.setIfInBounds (ρ2 (p.base mk)).blk o } := fun o => by simp [setObj, Sem.run, h1]
   refine zj1 (n := .skip) (v' := undef) (w1 := { w with heap := w.heap.setIfInBounds (ρ2 (p.base mk)).blk (.map (es.push ⟨.string kk, a.eval x, clk⟩) (clk + 1)) }) ?_ (.inr ⟨rfl, rfl⟩) (hK ρ2 _ _ ⟨k1.turn h2 f3 hs3, fun _ => ⟨es.push ⟨.string kk, a.eval x, clk⟩, clk + 1, ?_, h2, f3, hs3, fun k kk2 v hX hv2 => ?_, fun kk2 hk2 => ?_⟩⟩ k2)
   ·obtain ⟨dst,op,ty,pos,after,guard⟩:=o
    cases hop
    rw [ymb,em,ek]
    simp [Instr.mapUpdate,run_underlying hu,hg,run_checkKey hku,zcg hku h6,hset]
   ·show (w.heap.setIfInBounds _ _)[_]?=_
    rw [Array.getElem?_setIfInBounds,if_pos rfl,if_pos hlt]
   ·rw [Array.toList_push,zcj kk2 _ kk rfl]
    rcases hX with hX|rfl
    ·obtain ⟨j,v',h7,h8⟩:=h4 k kk2 v hX hv2
     rw [h7]
     exact ⟨j,v',rfl,h8⟩
    ·rw [hkv] at hv2
     cases hv2
     rw [h6]
     exact ⟨0+es.toList.length,a.eval x,if_pos (ziv.2 rfl),ex.mono (din k) fun _ _=>rfl⟩
   ·rw [Array.toList_push,zcj kk2 _ kk rfl,h5 kk2 fun k v hX=>hk2 k v (.inl hX)]
    have hne:(kk2==kk)=false:=by
     cases h:kk2==kk with
     |false=>rfl
     |true=>exact absurd hkv (by rw [<-ziv.1 h];exact hk2 i _ (.inr rfl))
    rw [hne]
    rfl
 ·exact zg7 g hT hC h0.sim hI hi hx hcl hnd hkept (fun hr=>by cases h:p.kd i with
   |false=>rfl
   |true=>exact absurd ⟨hr,h⟩ hk) fun ρ' a' w' h1 h2 h3=>hK ρ' a' w' ⟨h1,hM.fr g q h0.sim hi hx hcl h3 (fun e=>hk (by rw [e];exact ⟨q.mkr,q.mkk⟩)) (by
    cases h:kv i with
    |none=>rfl
    |some e=>obtain ⟨_,h4,h5,_⟩:=q.only i e h;exact absurd ⟨h4,h5⟩ hk)⟩ h2
theorem ypq {D:Nat->Prop}{s:ASt}{b:Nat}{x:ABody}(h:Sim E D ρ s w)(hd:D b)(hb:b+1<2 ^ yad)(hx:Bd E D ρ w (ρ b) true x)(hno: ∀ c o,s.heap.get c=some o->(ρ c).blk≠(ρ b).blk)(hns: ∀ x k ob,(ρ x).snap k=some ob->k≠(ρ b).blk):Sim E D ρ ⟨s.heap.set yad b (some ⟨true,x⟩),s.next,s.tc⟩ w:=by
 have hget: ∀ j,(s.heap.set yad b (some ⟨true,x⟩)).get j=if j=b then some ⟨true,x⟩ else s.heap.get j:=Tr.get_set yad s.heap b (some ⟨true,x⟩) hb
 refine ⟨fun i o hi=>?_,h.dn,fun i o hi=>?_,fun i o hi=>?_,fun i j o o' hi hj hne hwr=>?_,h.gl,h.glob,fun x k ob hk=>⟨(h.prot x k ob hk).1,fun c o hc hwr=>?_⟩⟩
 ·rw [zav,hget] at hi
  split at hi
  ·rename_i e;rw [e];exact hd
  ·exact h.lt i o hi
 ·rw [zav,hget] at hi
  split at hi
  ·rename_i e;cases hi;rw [e];exact hx
  ·exact h.bd i o hi
 ·rw [zav,hget] at hi
  split at hi
  ·rename_i e;rw [e];exact hx.lt
  ·exact h.inh i o hi
 ·rw [zav,hget] at hi hj
  split at hi
  ·rename_i e
   split at hj
   ·rename_i e2;exact absurd (e.trans e2.symm) hne
   ·rw [e];exact (hno j o' hj).symm
  ·split at hj
   ·rename_i e2;rw [e2];exact hno i o hi
   ·exact h.apart i j o o' hi hj hne hwr
 ·rw [zav,hget] at hc
  split at hc
  ·rename_i e;rw [e];exact (hns x k ob hk).symm
  ·exact (h.prot x k ob hk).2 c o hc hwr
theorem yrw {D D1:Nat->Prop}{s s1:ASt}{ρ1:Nat->Pl}{w1:World}{b:Nat}{x:AObj}(h:Ex D s ρ w D1 s1 ρ1 w1)(hb:b+1<2 ^ yad)(h1:s.next<=b)(h2:w.heap.size<=(ρ1 b).blk):Ex D s ρ w D1 ⟨s1.heap.set yad b (some x),s1.next,s1.tc⟩ ρ1 w1:=by
 have hget: ∀ j,(s1.heap.set yad b (some x)).get j=if j=b then some x else s1.heap.get j:=Tr.get_set yad s1.heap b (some x) hb
 refine ⟨h.next,h.sub,h.fresh,h.same,fun i o hi ho=>?_,fun i o hi ho hl=>?_,h.tc,h.os,h.tape,h.output,h.size,h.frame,fun i hi hn=>?_,h.twr,h.tcl,h.snew,h.sbig⟩
 ·rw [zav,hget,if_neg qF] at ho
  exact h.dead i o hi ho
 ·rw [zav,hget] at ho
  split at ho
  ·rename_i e;rw [e] at hl;omega
  ·exact h.born i o hi ho hl
 ·rw [zav,hget,if_neg qF]
  exact h.kept i hi hn
theorem ypc (g:p.Good T r sz ops tm0 s0)(q:Pend p P ops mk kv)(hT:T.Ok E P)(hC:ybl E P r)(h0:St E D0 ρ0 sz s0 tm0 a0 w0){tcF:List Nat}(htc: ∀ b,b∈tcF↔(∃ k,k<ops.length/\b∈(p.out k).tc)∨b∈s0.tc){es:List (ByteArray × Value)}(hb:p.base mk+1<2 ^ yad)
 (hes: ∀ kk,(yb2 kk es 0=none/\ ∀ k v,kv k≠some (kk,v))∨ ∃ k v i,kv k=some (kk,v)/\yb2 kk es 0=some (i,v)) {Q:Exit->Act->World->Prop}
 (hQ: ∀ D' ρ' a' w',St E D' ρ' sz ⟨(p.hpS ops.length).set yad (p.base mk) (some ⟨true, .map es⟩),p.base ops.length,tcF⟩ (p.tmS ops.length) a' w'->Ex D0 s0 ρ0 w0 D' ⟨(p.hpS ops.length).set yad (p.base mk) (some ⟨true, .map es⟩),p.base ops.length,tcF⟩ ρ' w'->Q .normal a' w'):
 wpAny P .any ⟨ops⟩ Q ops.length (Array.replicate ops.length false) a0 w0:=by
 refine zms g (zky g q hT hC h0) fun ρ a w ⟨hI,hM⟩=>?_
 obtain ⟨k1,k2⟩:=zo5 g (zky g q hT hC h0) h0 htc hI
 obtain ⟨es',clk,h1,h2,h3,hs3,h4,h5⟩:=hM q.mkl
 have hkept:=(zn6 g (zky g q hT hC h0) ops.length (qV _)).2
 have hhp: ∀ b,(p.hpS ops.length).get b=AX p s0 (fun m=>m<ops.length) ops.length b:=fun b=>by
  rw [zkr g ops.length (qV _) hkept]
  exact zci _ fun j hj _=>⟨fun _=>hj,fun _=>trivial⟩
 have dk: ∀ k x,k<ops.length->DK p D0 k x->ym2 p ops.length D0 x:=fun k x hk hd=>by
  rcases hd with hd|⟨j,hj,h1⟩
  ·exact .inl hd
  ·refine .inr ⟨j,?_,h1⟩
   rcases hj with rfl|hj
   ·exact hk
   ·have:=g.lt k j hk hj;omega
 have hbs:s0.next<=p.base mk:=by rw [<-g.b0];exact zaz g (Nat.zero_le _) (Nat.le_of_lt q.mkl)
 have hsim:=ypq (x:= .map es) (b:=p.base mk) k1.sim (.inr ⟨mk,q.mkl,qV _,by rw [q.next g];omega⟩) hb ⟨es',clk,h1,fun kk=>by
  rcases hes kk with ⟨j1,j2⟩|⟨k,v,i,j1,j2⟩
  ·exact .inl ⟨j1,h5 kk fun k v _=>j2 k v⟩
  ·obtain ⟨j,v',j3,j4⟩:=h4 k kk v (q.only k _ j1).1 j1
   exact .inr ⟨i,v,j,v',j2,j3,j4.mono (fun x hx=>dk k x (q.only k _ j1).1 hx) fun _ _=>rfl⟩⟩ (fun c o hc=>h3 c o (by rw [<-hhp];exact hc)) hs3
 exact hQ _ ρ a w ⟨hsim,k1.tr,k1.size,k1.defers⟩ (yrw k2 hb hbs h2)
end
structure Rec where
 o:Oper
 tm:Tm
 hp:Tr AObj
 base:Nat
 nd:Nat
 run:Bool
 fp:Option (List Nat)
 inp:Tr AObj
 hand:Option (Option (Nat × ByteArray × Value))
 v:Value
 out:ASt
def yqm (b:Nat):List Nat->Bool
 | []=>false
 |x::l=>cond (Nat.beq x b) true (yqm b l)
def yha (r:Rec)(b:Nat):Bool:=cond (Nat.ble r.base b&&Nat.ble (b+1) r.out.next) true (yqm b r.out.tc)
def yfh (recs:List Rec):List Edge->Option Nat
 | []=>some 0
 |e::l=>cond (Region.binds .any e) (match recs[e.on]?,yfh recs l with
  |some r,some m=>some (m |||(r.nd |||2 ^ e.on))
  |_,_=>none) (yfh recs l)
def ybk (nd:Nat):List Rec->Nat->List Rec
 | [],_=> []
 |r::l,j=>cond (nd.testBit j) (ybk nd l (j+1)) (r::ybk nd l (j+1))
def yc7 (hp:Tr AObj):List Nat->Tr AObj->Tr AObj
 | [],t=>t
 |b::l,t=>yc7 hp l (t.set yad b (hp.get b))
def ye8 (hp:Tr AObj):Nat->Nat->Tr AObj->Tr AObj
 |_,0,t=>t
 |b,n+1,t=>ye8 hp (b+1) n (t.set yad b (hp.get b))
def yd7 (hp:Tr AObj):List Rec->Tr AObj->Tr AObj
 | [],t=>t
 |u::l,t=>yd7 hp l (yc7 hp u.out.tc (ye8 hp u.base (u.out.next - u.base) t))
def ye7 :Value->List Nat
 | .pointer (some a)=> [a.block]
 | .slice (some a) _ _=> [a.block]
 | .map (some r)=> [r]
 |_=> []
def yl2 (ef:Operand->Value):List Operand->List Nat
 | []=> []
 |x::l=>ye7 (ef x)++yl2 ef l
def Yhd (ef:Operand->Value):Op->Option (List Nat)
 | .load _ a=>some (ye7 (ef a))
 | .store _ a _=>some (ye7 (ef a))
 | .slice _ x _ _ _=>some (ye7 (ef x))
 | .lookup _ m _ _=>some (ye7 (ef m))
 | .mapUpdate _ m _ _=>some (ye7 (ef m))
 | .insert _ m _ _=>some (ye7 (ef m))
 | .next it _=>some (ye7 (ef it))
 | .call ⟨.builtin _,args,_⟩=>some (yl2 ef args.toList)
 | .call _=>none
 |_=>some []
def yyr (hp:Tr AObj)(us:List Rec):Option (List Nat)->Option (Tr AObj)
 |some bs=>cond (bs.all fun b=>Nat.ble (b+2) (2 ^ yad)&&us.all fun u=>!yha u b) (some (yc7 hp bs .leaf)) none
 |none=>some (yd7 .leaf us hp)
def Yd8 (base:Nat)(tc:List Nat)(u:Rec):Bool:=
 match u.fp with
 |some bs=>bs.all fun b=>!yqm b tc
 |none=>tc.all fun b=>Nat.ble base b
def mrg (hp:Tr AObj)(us:List Rec)(base:Nat)(out:ASt):Option (List Nat)->Tr AObj
 |some _=>yc7 out.heap out.tc (ye8 out.heap base (out.next - base) hp)
 |none=>yd7 hp us out.heap
def yna (T:Tbl)(ef:Operand->Value)(s:ASt)(t:TypeId)(m k x:Operand):Option (Option (Option (Nat × ByteArray × Value)) × Value × ASt):=
 match T.ty t,ef m,ef k with
 |some i, .map (some b), .string kk=>match i.desc with
  | .map kt _=>match T.ty kt with
   |some ki=>match ki.desc with
    | .string=>some (some (some (b,kk,ef x)), .tuple ⟨[]⟩,s)
    |_=>none
   |none=>none
  |_=>none
 |_,_,_=>none
def yhu (T:Tbl)(r:Rn)(ef:Operand->Value)(s:ASt)(o:Op):Option (Option (Option (Nat × ByteArray × Value)) × Value × ASt):=
 match yd4 T r ef s o with
 |some (v,out)=>some (none,v,out)
 |none=>none
def yi2 (T:Tbl)(pd:Bool)(r:Rn)(ef:Operand->Value)(s:ASt)(o:Op):Option (Option (Option (Nat × ByteArray × Value)) × Value × ASt):=
 match pd with
 |false=>yhu T r ef s o
 |true=>match o with
  | .makeMap _ none=>some (some none, .map (some s.next),⟨s.heap,s.next+1,s.tc⟩)
  | .insert t m k x=>yna T ef s t m k x
  |o=>yhu T r ef s o
def ynw (T:Tbl)(pd:Bool)(r:Rn)(sz:Nat)(all:List Oper)(recs:List Rec)(o:Oper)(tm:Tm)(hp:Tr AObj)(base:Nat):Option (Rec × Tm × Tr AObj):=
 match yfh recs o.after.toList with
 |none=>none
 |some nd=>cond ((ybk nd recs 0).all fun u=>Oper.apart ⟨all⟩ u.o o) (match ycy all tm o.guard with
  |none=>none
  |some false=>cond (Nat.ble (base+1) (2 ^ yad)) (match yd5 tm sz o.dst (.tuple ⟨[]⟩) with
   |some tm1=>some (⟨o,tm,hp,base,nd,false,some [], .leaf,none, .tuple ⟨[]⟩,⟨.leaf,base,[]⟩⟩,tm1,hp)
   |none=>none) none
  |some true=>match yyr hp (ybk nd recs 0) (Yhd (aev tm) o.op) with
   |none=>none
   |some inp=>match yi2 T pd r (aev tm) ⟨inp,base,[]⟩ o.op with
    |none=>none
    |some (hd,v,out)=>cond (Nat.ble base out.next&&Nat.ble (out.next+1) (2 ^ yad)&&out.tc.all (fun b=>Nat.ble (b+2) (2 ^ yad))&&(ybk nd recs 0).all (Yd8 base out.tc)) (match yd5 tm sz o.dst v with
     |some tm1=>some (⟨o,tm,hp,base,nd,true,Yhd (aev tm) o.op,inp,hd,v,out⟩,tm1,mrg hp (ybk nd recs 0) base out (Yhd (aev tm) o.op))
     |none=>none) none) none
def dgo (T:Tbl)(pd:Bool)(r:Rn)(sz:Nat)(all:List Oper):List Oper->List Rec->Tm->Tr AObj->Nat->List Nat->Option (List Rec × Tm × ASt)
 | [],recs,tm,hp,base,tcs=>some (recs,tm,⟨hp,base,tcs⟩)
 |o::l,recs,tm,hp,base,tcs=>match ynw T pd r sz all recs o tm hp base with
  |some (rec,tm1,hp1)=>dgo T pd r sz all l (recs++ [rec]) tm1 hp1 rec.out.next (rec.out.tc++tcs)
  |none=>none
def yeh :List Rec->List (ByteArray × Value)
 | []=> []
 |u::l=>match u.hand with
  |some (some (_,k,v))=>(k,v)::yeh l
  |_=>yeh l
def yyx :List Rec->Nat->Option (Nat × Nat)
 | [],_=>none
 |u::l,i=>match u.hand with
  |some none=>some (i,u.base)
  |_=>yyx l (i+1)
def ykm (mk base i:Nat)(u:Rec):Bool:=match u.hand with
 |none=>true
 |some none=>Nat.beq i mk
 |some (some (b,_,_))=>Nat.beq b base&&u.nd.testBit mk
def yqp (mk base:Nat):List Rec->Nat->Bool
 | [],_=>true
 |u::l,i=>cond (ykm mk base i u) (yqp mk base l (i+1)) false
def yf7 :List (ByteArray × Value)->Bool
 | []=>true
 |(k,_)::l=>match yb2 k l 0 with
  |none=>yf7 l
  |some _=>false
def pfin (R:List Rec)(tm:Tm)(s:ASt):Option (Tm × ASt):=
 match yyx R 0 with
 |some (mk,base)=>cond (yqp mk base R 0&&(yf7 (yeh R)&&Nat.ble (base+2) (2 ^ yad))) (some (tm,⟨s.heap.set yad base (some ⟨true, .map (yeh R)⟩),s.next,s.tc⟩)) none
 |none=>none
def yhr (T:Tbl):Dr:=fun r sz ops tm s=>
 match dgo T false r sz ops ops [] tm s.heap s.next s.tc with
 |some (_,tm1,s1)=>some (tm1,s1)
 |none=>match dgo T true r sz ops ops [] tm s.heap s.next s.tc with
  |some (R,tm1,s1)=>pfin R tm1 s1
  |none=>none
theorem zg4 {T:Tbl}{r:Rn}{ef:Operand->Value}{s out:ASt}{o:Op}{hd:Option (Option (Nat × ByteArray × Value))}{v:Value}(h:yhu T r ef s o=some (hd,v,out)):hd=none/\yd4 T r ef s o=some (v,out):=by
 unfold yhu at h
 split at h
 ·rename_i ha
  cases h;exact ⟨rfl,ha⟩
 ·cases h
theorem zj6 {T:Tbl}{r:Rn}{ef:Operand->Value}{s out:ASt}{o:Op}{hd:Option (Option (Nat × ByteArray × Value))}{v:Value}(h:yi2 T false r ef s o=some (hd,v,out)):hd=none:=
 (zg4 h).1
def yhm (T:Tbl)(r:Rn)(ef:Operand->Value)(s:ASt)(o:Op)(v:Value)(out:ASt):Option (Option (Nat × ByteArray × Value))->Prop
 |none=>yd4 T r ef s o=some (v,out)
 |some none=>(∃ t,o= .makeMap t none)/\v= .map (some s.next)/\out=⟨s.heap,s.next+1,s.tc⟩
 |some (some (b,kk,u))=> ∃ t m k x i kt et ki,o= .insert t m k x/\T.ty t=some i/\i.desc= .map kt et/\T.ty kt=some ki/\ki.desc= .string/\ef m= .map (some b)/\ef k= .string kk/\u=ef x/\v= .tuple ⟨[]⟩/\out=s
theorem zm7 {T:Tbl}{r:Rn}{ef:Operand->Value}{s out:ASt}{t:TypeId}{m k x:Operand}{hd:Option (Option (Nat × ByteArray × Value))}{v:Value}(h:yna T ef s t m k x=some (hd,v,out)):yhm T r ef s (.insert t m k x) v out hd:=by
 unfold yna at h
 split at h
 ·rename_i i b kk hi hm hk
  split at h
  ·rename_i hd1
   split at h
   ·rename_i ki hki
    split at h
    ·rename_i hd2
     cases h
     exact ⟨_,_,_,_,_,_,_,_,rfl,hi,hd1,hki,hd2,hm,hk,rfl,rfl,rfl⟩
    ·cases h
   ·cases h
  ·cases h
 ·cases h
theorem zet {T:Tbl}{pd:Bool}{r:Rn}{ef:Operand->Value}{s out:ASt}{o:Op}{hd:Option (Option (Nat × ByteArray × Value))}{v:Value}(h:yi2 T pd r ef s o=some (hd,v,out)):yhm T r ef s o v out hd:=by
 have ord:yhu T r ef s o=some (hd,v,out)->yhm T r ef s o v out hd:=fun h=>by
  obtain ⟨rfl,h2⟩:=zg4 h
  exact h2
 cases pd with
 |false=>exact ord h
 |true=>
  cases o with
  |insert t m k x=>exact zm7 h
  |makeMap t x=>
   cases x with
   |none=>cases h;exact ⟨⟨_,rfl⟩,rfl,rfl⟩
   |some=>exact ord h
  |_=>exact ord h
theorem zh5 {b:Nat}: ∀ {l:List Nat},yqm b l=true↔b∈l
 | []=>by simp [yqm]
 |x::l=>by
  rw [yqm]
  cases h:Nat.beq x b
  ·have hne:b≠x:=fun e=>by rw [e] at h;simp at h
   simp [zh5,hne]
  ·have:=qU h
   simp [this]
theorem zb6 {r:Rec}{b:Nat}:yha r b=true↔(r.base<=b/\b<r.out.next)∨b∈r.out.tc:=by
 unfold yha
 cases h:Nat.ble r.base b&&Nat.ble (b+1) r.out.next
 ·simp only [cond_false,zh5]
  constructor
  ·exact .inr
  ·rintro (⟨h1,h2⟩|h1)
   ·rw [Nat.ble_eq_true_of_le h1,Nat.ble_eq_true_of_le (show b+1<=r.out.next from h2)] at h
    cases h
   ·exact h1
 ·simp only [Bool.and_eq_true] at h
  simp only [cond_true,true_iff]
  exact .inl ⟨qS h.1,qS h.2⟩
theorem zcf (hp:Tr AObj): ∀ (l:List Nat) (t:Tr AObj) (b:Nat),(∀ x∈l,x+1<2 ^ yad)->(yc7 hp l t).get b=if b∈l then hp.get b else t.get b
 | [],t,b,_=>by rw [yc7,if_neg qH]
 |x::l,t,b,h=>by
  rw [yc7,zcf hp l _ b fun y hy=>h y (by simp [hy]),Tr.get_set yad t x (hp.get x) (h x qH) b]
  by_cases h1:b∈l
  ·rw [if_pos h1,if_pos (by simp [h1])]
  ·rw [if_neg h1]
   by_cases h2:b=x
   ·subst h2;rw [if_pos rfl,if_pos qH]
   ·rw [if_neg h2,if_neg (by simp [h1,h2])]
theorem zga (hp:Tr AObj): ∀ (n x:Nat) (t:Tr AObj) (b:Nat),x+n<2 ^ yad->(ye8 hp x n t).get b=if x<=b/\b<x+n then hp.get b else t.get b
 |0,x,t,b,_=>by rw [ye8,if_neg qF]
 |n+1,x,t,b,h=>by
  rw [ye8,zga hp n (x+1) _ b qF,Tr.get_set yad t x (hp.get x) qF b]
  by_cases h1:x+1<=b/\b<x+1+n
  ·rw [if_pos h1,if_pos qF]
  ·rw [if_neg h1]
   by_cases h2:b=x
   ·subst h2;rw [if_pos rfl,if_pos qF]
   ·rw [if_neg h2,if_neg qF]
def Rec.fits (u:Rec):Prop:=u.base<=u.out.next/\u.out.next<2 ^ yad/\ ∀ b∈u.out.tc,b+1<2 ^ yad
theorem zeb (hp:Tr AObj): ∀ (l:List Rec) (t:Tr AObj) (b:Nat),(∀ u∈l,u.fits)->(yd7 hp l t).get b=if (∃ u∈l,yha u b=true) then hp.get b else t.get b
 | [],t,b,_=>by rw [yd7,if_neg qH]
 |u::l,t,b,h=>by
  obtain ⟨f1,f2,f3⟩:=h u qH
  rw [yd7,zeb hp l _ b fun y hy=>h y (by simp [hy]),zcf hp _ _ b f3,zga hp _ _ _ b qF]
  by_cases h1: ∃ u∈l,yha u b=true
  ·obtain ⟨y,hy,hy2⟩:=h1
   rw [if_pos ⟨y,hy,hy2⟩,if_pos ⟨y,by simp [hy],hy2⟩]
  ·rw [if_neg h1]
   by_cases h2:yha u b=true
   ·rw [if_pos (show ∃ y∈u::l,yha y b=true from ⟨u,by simp,h2⟩)]
    rcases zb6.1 h2 with h3|h3
    ·by_cases h4:b∈u.out.tc
     ·rw [if_pos h4]
     ·rw [if_neg h4,if_pos qF]
    ·rw [if_pos h3]
   ·rw [if_neg (show ¬ ∃ y∈u::l,yha y b=true from fun ⟨y,hy,hy2⟩=>by
     rcases qY hy with rfl|hy
     ·exact h2 hy2
     ·exact h1 ⟨y,hy,hy2⟩)]
    have h3: ¬ (b∈u.out.tc):=fun h=>h2 (zb6.2 (.inr h))
    have h4: ¬ (u.base<=b/\b<u.base+(u.out.next - u.base)):=fun h=>h2 (zb6.2 (.inl ⟨h.1,by omega⟩))
    rw [if_neg h3,if_neg h4]
structure Found (T:Tbl)(pd:Bool)(r:Rn)(sz:Nat)(all:List Oper)(recs:List Rec)(o:Oper)(tm:Tm)(hp:Tr AObj)(base:Nat)(rec:Rec)(tm1:Tm)(hp1:Tr AObj):Prop where
 eo:rec.o=o
 etm:rec.tm=tm
 ehp:rec.hp=hp
 ebase:rec.base=base
 nd:yfh recs o.after.toList=some rec.nd
 apart: ∀ u∈ybk rec.nd recs 0,Oper.apart ⟨all⟩ u.o o=true
 wan:ycy all tm o.guard=some rec.run
 put:yd5 tm sz o.dst rec.v=some tm1
 fits:rec.fits
 le:base<=rec.out.next
 no:rec.run=false->rec.v= .tuple ⟨[]⟩/\rec.out=⟨.leaf,base,[]⟩/\rec.inp= .leaf/\rec.fp=some []/\hp1=hp/\rec.hand=none
 yes:rec.run=true->yyr hp (ybk rec.nd recs 0) rec.fp=some rec.inp/\yi2 T pd r (aev tm) ⟨rec.inp,base,[]⟩ o.op=some (rec.hand,rec.v,rec.out)/\(∀ u∈ybk rec.nd recs 0,Yd8 base rec.out.tc u=true)/\hp1=mrg hp (ybk rec.nd recs 0) base rec.out rec.fp
theorem zkk {T:Tbl}{pd:Bool}{r:Rn}{sz:Nat}{all:List Oper}{recs:List Rec}{o:Oper}{tm:Tm}{hp:Tr AObj}{base:Nat}{rec:Rec}{tm1:Tm}{hp1:Tr AObj}(h:ynw T pd r sz all recs o tm hp base=some (rec,tm1,hp1)):Found T pd r sz all recs o tm hp base rec tm1 hp1:=by
 unfold ynw at h
 split at h
 ·cases h
 ·rename_i nd hnd
  obtain ⟨h1,h2⟩:=zas h
  have hap:=List.all_eq_true.1 h1
  split at h2
  ·cases h2
  ·rename_i hw
   obtain ⟨h0,h2⟩:=zas h2
   have h0:=qS h0
   split at h2
   ·rename_i tm2 hp2
    cases h2
    exact ⟨rfl,rfl,rfl,rfl,hnd,hap,hw,hp2,⟨qV _,h0,fun b hb=>by cases hb⟩,qV _,fun _=>⟨rfl,rfl,rfl,rfl,rfl,rfl⟩,fun h=>by cases h⟩
   ·cases h2
  ·rename_i hw
   split at h2
   ·cases h2
   ·rename_i inp hin
    split at h2
    ·cases h2
    ·rename_i hd v out hs
     obtain ⟨h3,h4⟩:=zas h2
     simp only [Bool.and_eq_true] at h3
     obtain ⟨⟨⟨h3,h5⟩,h6⟩,h7⟩:=h3
     have h3:=qS h3
     have h5:=qS h5
     split at h4
     ·rename_i tm2 hp2
      cases h4
      exact ⟨rfl,rfl,rfl,rfl,hnd,hap,hw,hp2,⟨h3,h5,fun b hb=>qS (List.all_eq_true.1 h6 b hb)⟩,h3,(fun h=>by cases h),fun _=>⟨hin,hs,fun u hu=>List.all_eq_true.1 h7 u hu,rfl⟩⟩
     ·cases h4
end
end Go.Proofs.YthcalfeoejdcgaaGreatDoor
