import Derived.WalkKit
import Derived.WalkSpells
import Derived.BigQuiet
import Derived.Deep.QuietTactic
import Derived.Deep.RegionLaw
import Derived.Lib.Hide
import Derived.StillTailTactics
import Derived.OwnWalk
import Derived.Maps.AppendAt
import Derived.Laws.AppendOwnNone
import Derived.Test.YthcalfeoejdcgaaGreatDoorK03
import Derived.Lib.Bytealg
import Derived.Lib.Small
import Derived.Laws.OwnMore
import Derived.Laws.MakeOwn
namespace Go.Proofs.YthcalfeoejdcgaaGreatDoor
set_option linter.unusedSimpArgs false
set_option linter.unusedVariables false
set_option maxRecDepth 100000
set_option maxHeartbeats 20000000
section
section
open Go.RowKit
def atT (S:List Rec)(x:Tm)(j:Nat):Tm:=match S[j]? with|some r=>r.tm|none=>x
def atH (S:List Rec)(x:Tr AObj)(j:Nat):Tr AObj:=match S[j]? with|some r=>r.hp|none=>x
def atB (S:List Rec)(x:Nat)(j:Nat):Nat:=match S[j]? with|some r=>r.base|none=>x
section
variable {T:Tbl}{pd:Bool}{r:Rn}{sz:Nat}{all:List Oper}
theorem zl2 : ∀ (l:List Oper) (recs:List Rec) (tm:Tm) (hp:Tr AObj) (base:Nat) (tcs:List Nat) (R:List Rec) (tm':Tm) (s':ASt),dgo T pd r sz all l recs tm hp base tcs=some (R,tm',s')->
 ∃ S:List Rec,R=recs++S/\S.length=l.length/\atT S tm' 0=tm/\atH S s'.heap 0=hp/\atB S s'.next 0=base/\
  (∀ j o,l[j]?=some o-> ∃ rec,S[j]?=some rec/\Found T pd r sz all (recs++S.take j) o (atT S tm' j) (atH S s'.heap j) (atB S s'.next j) rec (atT S tm' (j+1)) (atH S s'.heap (j+1))/\atB S s'.next (j+1)=rec.out.next)/\
  ∀ b,b∈s'.tc↔(∃ rec∈S,b∈rec.out.tc)∨b∈tcs
 | [],recs,tm,hp,base,tcs,R,tm',s',h=>by
  cases h
  exact ⟨[],by simp,rfl,rfl,rfl,rfl,fun j o h=>by simp at h,fun b=>by simp⟩
 |o::l,recs,tm,hp,base,tcs,R,tm',s',h=>by
  unfold dgo at h
  split at h
  ·rename_i rec tm1 hp1 hd
   have hf:=zkk hd
   obtain ⟨S,h1,h2,h3,h4,h5,h6,h7⟩:=zl2 l (recs++ [rec]) tm1 hp1 rec.out.next (rec.out.tc++tcs) R tm' s' h
   refine ⟨rec::S,by simp [h1],by simp [h2],hf.etm,hf.ehp,hf.ebase,fun j o' ho=>?_,fun b=>?_⟩
   ·cases j with
    |zero=>
     simp at ho
     subst ho
     refine ⟨rec,rfl,?_,h5⟩
     rw [show atT (rec::S) tm' 0=tm from hf.etm,show atH (rec::S) s'.heap 0=hp from hf.ehp,show atB (rec::S) s'.next 0=base from hf.ebase]
     rw [show atT (rec::S) tm' (0+1)=tm1 from h3,show atH (rec::S) s'.heap (0+1)=hp1 from h4]
     simpa using hf
    |succ j=>
     obtain ⟨rec',k1,k2,k3⟩:=h6 j o' (by simpa using ho)
     refine ⟨rec',k1,?_,k3⟩
     have e:recs++(rec::S).take (j+1)=recs++ [rec]++S.take j:=by simp
     rw [e]
     exact k2
   ·rw [h7 b]
    simp only [List.mem_append,List.mem_cons]
    constructor
    ·rintro (⟨x,hx,hb⟩|hb|hb)
     ·exact .inl ⟨x, .inr hx,hb⟩
     ·exact .inl ⟨rec, .inl rfl,hb⟩
     ·exact .inr hb
    ·rintro (⟨x,rfl|hx,hb⟩|hb)
     ·exact .inr (.inl hb)
     ·exact .inl ⟨x,hx,hb⟩
     ·exact .inr (.inr hb)
  ·cases h
theorem ze3 : ∀ (l:List Edge) (recs:List Rec) (m:Nat),yfh recs l=some m->(∀ e∈l,Region.binds .any e=true->e.on<recs.length)/\ ∀ j,m.testBit j=true↔ ∃ e∈l,Region.binds .any e=true/\(j=e.on∨ ∃ u,recs[e.on]?=some u/\u.nd.testBit j=true)
 | [],recs,m,h=>by
  cases h
  exact ⟨fun e h=>absurd h qH,fun j=>by simp⟩
 |e::l,recs,m,h=>by
  unfold yfh at h
  cases hb:Region.binds .any e
  ·rw [hb] at h
   obtain ⟨h1,h2⟩:=ze3 l recs m h
   refine ⟨fun x hx hbx=>?_,fun j=>?_⟩
   ·rcases qY hx with rfl|hx
    ·rw [hb] at hbx;cases hbx
    ·exact h1 x hx hbx
   ·rw [h2 j]
    constructor
    ·rintro ⟨x,hx,hr⟩;exact ⟨x, .tail _ hx,hr⟩
    ·rintro ⟨x,hx,hbx,hr⟩
     rcases qY hx with rfl|hx
     ·rw [hb] at hbx;cases hbx
     ·exact ⟨x,hx,hbx,hr⟩
  ·rw [hb] at h
   have h:(match recs[e.on]?,yfh recs l with
    |some r,some m=>some (m |||(r.nd |||2 ^ e.on))
    |_,_=>none)=some m:=h
   split at h
   ·rename_i u m' hu hm
    cases h
    obtain ⟨h1,h2⟩:=ze3 l recs m' hm
    refine ⟨fun x hx hbx=>?_,fun j=>?_⟩
    ·rcases qY hx with rfl|hx
     ·exact (qO hu).1
     ·exact h1 x hx hbx
    ·rw [Nat.testBit_or,Nat.testBit_or,Nat.testBit_two_pow,Bool.or_eq_true,Bool.or_eq_true,h2 j]
     constructor
     ·rintro (⟨x,hx,hr⟩|hr|hr)
      ·exact ⟨x, .tail _ hx,hr⟩
      ·exact ⟨e, .head _,hb, .inr ⟨u,hu,hr⟩⟩
      ·exact ⟨e, .head _,hb, .inl (by simpa using (of_decide_eq_true hr).symm)⟩
     ·rintro ⟨x,hx,hbx,hr⟩
      rcases qY hx with rfl|hx
      ·rcases hr with rfl|⟨u',hu',hr⟩
       ·exact .inr (.inr qH)
       ·rw [hu] at hu';cases hu';exact .inr (.inl hr)
      ·exact .inl ⟨x,hx,hbx,hr⟩
   ·cases h
theorem zh6 {nd:Nat}: ∀ (l:List Rec) (k j:Nat) (u:Rec),l[j]?=some u->nd.testBit (k+j)=false->u∈ybk nd l k
 | [],_,_,_,h,_=>by simp at h
 |r::l,k,0,u,h,hn=>by
  simp at h
  subst h
  rw [ybk,show nd.testBit k=false from hn]
  exact .head _
 |r::l,k,j+1,u,h,hn=>by
  have ih:=zh6 (nd:=nd) l (k+1) j u (by simpa using h) (by rw [show k+1+j=k+(j+1) by omega];exact hn)
  rw [ybk]
  cases nd.testBit k
  ·exact .tail _ ih
  ·exact ih
theorem zlc {nd:Nat}: ∀ (l:List Rec) (k:Nat) (u:Rec),u∈ybk nd l k->u∈l
 | [],_,_,h=>h
 |r::l,k,u,h=>by
  rw [ybk] at h
  cases hb:nd.testBit k
  ·rw [hb] at h
   rcases qY h with rfl|h
   ·exact .head _
   ·exact .tail _ (zlc l (k+1) u h)
  ·rw [hb] at h
   exact .tail _ (zlc l (k+1) u h)
end
def yax (S:List Rec)(tm':Tm)(s':ASt):Plan where
 run k:=match S[k]? with|some u=>u.run|none=>false
 kd k:=match S[k]? with|some u=>u.hand.isSome|none=>false
 nd k j:=match S[k]? with|some u=>u.nd.testBit j|none=>false
 base k:=atB S s'.next k
 inp k:=match S[k]? with|some u=>u.inp|none=> .leaf
 v k:=match S[k]? with|some u=>u.v|none=> .tuple ⟨[]⟩
 out k:=match S[k]? with|some u=>u.out|none=>⟨.leaf,0,[]⟩
 tmS k:=atT S tm' k
 hpS k:=atH S s'.heap k
section
variable {T:Tbl}{pd:Bool}{r:Rn}{sz:Nat}{ops:List Oper}{S:List Rec}{tm0 tm':Tm}{s0 s':ASt}
structure Recs (T:Tbl)(pd:Bool)(r:Rn)(sz:Nat)(ops:List Oper)(tm0:Tm)(s0:ASt)(S:List Rec)(tm':Tm)(s':ASt):Prop where
 len:S.length=ops.length
 t0:atT S tm' 0=tm0
 h0:atH S s'.heap 0=s0.heap
 b0:atB S s'.next 0=s0.next
 low: ∀ b x,s0.heap.get b=some x->b<s0.next
 each: ∀ j o,ops[j]?=some o-> ∃ rec,S[j]?=some rec/\Found T pd r sz ops (S.take j) o (atT S tm' j) (atH S s'.heap j) (atB S s'.next j) rec (atT S tm' (j+1)) (atH S s'.heap (j+1))/\atB S s'.next (j+1)=rec.out.next
theorem Recs.get (h:Recs T pd r sz ops tm0 s0 S tm' s'){k:Nat}(hk:k<ops.length): ∃ o rec,ops[k]?=some o/\S[k]?=some rec/\Found T pd r sz ops (S.take k) o (atT S tm' k) (atH S s'.heap k) (atB S s'.next k) rec (atT S tm' (k+1)) (atH S s'.heap (k+1))/\atB S s'.next (k+1)=rec.out.next:=by
 have ho:ops[k]?=some (ops[k]):=List.getElem?_eq_getElem hk
 obtain ⟨rec,h1,h2,h3⟩:=h.each k _ ho
 exact ⟨_,rec,ho,h1,h2,h3⟩
theorem Recs.nd (h:Recs T pd r sz ops tm0 s0 S tm' s'){k:Nat}{o:Oper}{rec:Rec}(ho:ops[k]?=some o)(hr:S[k]?=some rec)(hf:yfh (S.take k) o.after.toList=some rec.nd):
 (∀ e∈o.after,Region.binds .any e=true->e.on<k)/\ ∀ j,rec.nd.testBit j=true↔ ∃ e∈o.after,Region.binds .any e=true/\(j=e.on∨(yax S tm' s').nd e.on j=true):=by
 obtain ⟨h1,h2⟩:=ze3 _ _ _ hf
 have hk:k<ops.length:=(qO ho).1
 have hl:(S.take k).length=k:=by rw [List.length_take,h.len];omega
 rw [hl] at h1
 refine ⟨fun e he=>h1 e (by simpa using he),fun j=>?_⟩
 rw [h2 j]
 constructor
 ·rintro ⟨e,he,hb,hr⟩
  refine ⟨e,by simpa using he,hb,hr.imp id ?_⟩
  rintro ⟨u,hu,hr⟩
  rw [List.getElem?_take] at hu
  split at hu
  ·show (match S[e.on]? with|some u=>u.nd.testBit j|none=>false)=true
   rw [hu];exact hr
  ·cases hu
 ·rintro ⟨e,he,hb,hr⟩
  have hlt:=h1 e (by simpa using he) hb
  refine ⟨e,by simpa using he,hb,hr.imp id fun hr=>?_⟩
  obtain ⟨_,u,_,hu,_⟩:=h.get (show e.on<ops.length by omega)
  refine ⟨u,by rw [List.getElem?_take,if_pos hlt];exact hu,?_⟩
  have hr:(match S[e.on]? with|some u=>u.nd.testBit j|none=>false)=true:=hr
  rw [hu] at hr;exact hr
theorem zdj {k j:Nat}{rec:Rec}(hr:S[k]?=some rec):(yax S tm' s').nd k j=rec.nd.testBit j:=by
 show (match S[k]? with|some u=>u.nd.testBit j|none=>false)=_
 rw [hr]
theorem zbu {k:Nat}{rec:Rec}(hr:S[k]?=some rec):(yax S tm' s').out k=rec.out:=by
 show (match S[k]? with|some u=>u.out|none=>_)=_
 rw [hr]
theorem zcn {k:Nat}{rec:Rec}(hr:S[k]?=some rec):(yax S tm' s').inp k=rec.inp:=by
 show (match S[k]? with|some u=>u.inp|none=>_)=_
 rw [hr]
theorem zc9 {k:Nat}{rec:Rec}(hr:S[k]?=some rec):(yax S tm' s').run k=rec.run:=by
 show (match S[k]? with|some u=>u.run|none=>_)=_
 rw [hr]
theorem zgh {k:Nat}{rec:Rec}(hr:S[k]?=some rec):(yax S tm' s').kd k=rec.hand.isSome:=by
 show (match S[k]? with|some u=>u.hand.isSome|none=>_)=_
 rw [hr]
theorem zjf {k:Nat}{rec:Rec}(hr:S[k]?=some rec):(yax S tm' s').v k=rec.v:=by
 show (match S[k]? with|some u=>u.v|none=>_)=_
 rw [hr]
theorem zkb {k:Nat}{rec:Rec}(hr:S[k]?=some rec):atB S s'.next k=rec.base:=by
 show (match S[k]? with|some u=>u.base|none=>_)=_
 rw [hr]
theorem zid (h:Recs T pd r sz ops tm0 s0 S tm' s'){k b:Nat}(hk:k<ops.length){rec:Rec}(hr:S[k]?=some rec):(yax S tm' s').aff k b↔yha rec b=true:=by
 obtain ⟨o,rec',ho,hr',hf,hn⟩:=h.get hk
 rw [hr] at hr'
 cases hr'
 rw [zb6]
 show ((atB S s'.next k<=b/\b<atB S s'.next (k+1))∨b∈((yax S tm' s').out k).tc)↔_
 rw [hn,zkb hr,zbu hr]
theorem Recs.mono (h:Recs T pd r sz ops tm0 s0 S tm' s'){j k:Nat}(hjk:j<=k):k<=ops.length->atB S s'.next j<=atB S s'.next k:=by
 induction hjk with
 |refl=>exact fun _=>qV _
 | @step k _ ih=>
  intro hk
  obtain ⟨o,rec,ho,hr,hf,hn⟩:=h.get (show k<ops.length by omega)
  refine qR (ih qF) ?_
  rw [hn];exact hf.le
theorem zlb (h:Recs T pd r sz ops tm0 s0 S tm' s'){k:Nat}(hk:k<=ops.length){nd:Nat}{u:Rec}(hu:u∈ybk nd (S.take k) 0): ∃ j,j<k/\S[j]?=some u/\u.fits:=by
 obtain ⟨j,hj⟩:=List.getElem?_of_mem (zlc _ _ _ hu)
 rw [List.getElem?_take] at hj
 split at hj
 ·rename_i hlt
  obtain ⟨o,rec,ho,hr,hf,hn⟩:=h.get (show j<ops.length by omega)
  rw [hj] at hr
  cases hr
  exact ⟨j,hlt,hj,hf.fits⟩
 ·cases hj
theorem zma (h:Recs T pd r sz ops tm0 s0 S tm' s'){k b:Nat}(hk:k<ops.length){rec:Rec}(hr:S[k]?=some rec){x:AObj}(hx:rec.inp.get b=some x):
 (atH S s'.heap k).get b=some x/\(∀ u∈ybk rec.nd (S.take k) 0,yha u b=false)/\ ∀ bs,rec.fp=some bs->b∈bs:=by
 obtain ⟨o,rec',ho,hr',hf,hn⟩:=h.get hk
 rw [hr] at hr'
 cases hr'
 cases hrun:rec.run
 ·obtain ⟨_,_,h3,_⟩:=hf.no hrun
  rw [h3,Tr.get_leaf] at hx
  cases hx
 ·obtain ⟨h1,_⟩:=hf.yes hrun
  cases hfp:rec.fp with
  |some bs=>
   rw [hfp] at h1
   obtain ⟨h2,h3⟩:=zax h1
   rw [<-h3] at hx
   have h4:=List.all_eq_true.1 h2
   rw [zcf _ bs .leaf b fun y hy=>by
    have:=h4 y hy
    simp only [Bool.and_eq_true] at this
    exact qS this.1] at hx
   by_cases hb:b∈bs
   ·rw [if_pos hb] at hx
    have:=h4 b hb
    simp only [Bool.and_eq_true] at this
    exact ⟨hx,fun u hu=>by simpa using List.all_eq_true.1 this.2 u hu,fun bs' e=>by cases e;exact hb⟩
   ·rw [if_neg hb,Tr.get_leaf] at hx;cases hx
  |none=>
   rw [hfp] at h1
   have h3:yd7 .leaf (ybk rec.nd (S.take k) 0) (atH S s'.heap k)=rec.inp:=Option.some.inj h1
   rw [<-h3,zeb _ _ _ b fun u hu=>by obtain ⟨j,_,_,hfit⟩:=zlb h qF hu;exact hfit] at hx
   split at hx
   ·rw [Tr.get_leaf] at hx;cases hx
   ·rename_i hno
    refine ⟨hx,fun u hu=>?_,fun bs e=>by cases e⟩
    cases ha:yha u b with
    |false=>rfl
    |true=>exact absurd ⟨u,hu,ha⟩ hno
theorem ymg (h:Recs T pd r sz ops tm0 s0 S tm' s'){k:Nat}(hk:k<ops.length)(hL: ∀ j,j<=k-> ∀ b x,(atH S s'.heap j).get b=some x->b<atB S s'.next j)(hK: ∀ j,j<=k->(yax S tm' s').Kept j)(b:Nat):
 ((yax S tm' s').aff k b->(atH S s'.heap (k+1)).get b=((yax S tm' s').out k).heap.get b)/\(¬ (yax S tm' s').aff k b->(atH S s'.heap (k+1)).get b=(atH S s'.heap k).get b):=by
 obtain ⟨o,rec,ho,hr,hf,hn⟩:=h.get hk
 rw [zid h hk hr,zbu hr]
 have hbase:=zkb (s':=s') hr
 have hkb:=hK k (qV _)
 unfold Plan.Kept at hkb
 rw [zbu hr,zcn hr] at hkb
 have hkb:(∀ b,b<atB S s'.next k->b∉rec.out.tc->rec.out.heap.get b=rec.inp.get b)/\(∀ b x,rec.out.heap.get b=some x->b<atB S s'.next (k+1))/\ ∀ b,b∈rec.out.tc->(∃ x,rec.inp.get b=some x)∨(atB S s'.next k<=b/\b<atB S s'.next (k+1)):=hkb
 cases hrun:rec.run
 ·obtain ⟨_,h2,_,_,h5,_⟩:=hf.no hrun
  rw [h5]
  refine ⟨fun ha=>?_,fun _=>rfl⟩
  rw [zb6,h2] at ha
  rcases ha with ha|ha
  ·have:atB S s'.next k=rec.base:=hbase
   simp only at ha
   omega
  ·cases ha
 ·obtain ⟨_,_,_,h4⟩:=hf.yes hrun
  have hfit:=hf.fits
  obtain ⟨f1,f2,f3⟩:=hfit
  rw [h4]
  cases hfp:rec.fp with
  |some bs=>
   show (_->(yc7 rec.out.heap rec.out.tc (ye8 rec.out.heap (atB S s'.next k) (rec.out.next - atB S s'.next k) (atH S s'.heap k))).get b=_)/\(_->(yc7 rec.out.heap rec.out.tc (ye8 rec.out.heap (atB S s'.next k) (rec.out.next - atB S s'.next k) (atH S s'.heap k))).get b=_)
   rw [zcf _ _ _ b f3,zga _ _ _ _ b (by rw [hbase];omega),zb6,hbase]
   constructor
   ·rintro (ha|ha)
    ·by_cases h6:b∈rec.out.tc
     ·rw [if_pos h6]
     ·rw [if_neg h6,if_pos qF]
    ·rw [if_pos ha]
   ·intro ha
    rw [if_neg (fun h6=>ha (.inr h6)),if_neg (fun h6=>ha (.inl qF))]
  |none=>
   have hus: ∀ u∈ybk rec.nd (S.take k) 0,u.fits:=fun u hu=>by
    obtain ⟨j,_,_,hfit⟩:=zlb h qF hu
    exact hfit
   show (_->(yd7 (atH S s'.heap k) (ybk rec.nd (S.take k) 0) rec.out.heap).get b=_)/\(_->(yd7 (atH S s'.heap k) (ybk rec.nd (S.take k) 0) rec.out.heap).get b=_)
   rw [zeb _ _ _ b hus]
   -- what an unordered elder one has turned lies below
   have below: ∀ u∈ybk rec.nd (S.take k) 0,yha u b=true->b<atB S s'.next k:=fun u hu ha=>by
    obtain ⟨j,hj,hju,_⟩:=zlb h qF hu
    have hj1:=h.mono (show j+1<=k by omega) qF
    rw [<-zid h qF hju] at ha
    rcases ha with ha|ha
    ·have:b<atB S s'.next (j+1):=ha.2
     omega
    ·rcases (hK j qF).2.2 b ha with ⟨x,hx⟩|h7
     ·rw [zcn hju] at hx
      have h8:=hL j qF b x (zma h qF hju hx).1
      have:=h.mono (show j<=k by omega) qF
      omega
     ·have:b<atB S s'.next (j+1):=h7.2
      omega
   constructor
   ·intro ha
    rw [if_neg]
    rintro ⟨u,hu,hau⟩
    rw [zb6,<-hbase] at ha
    have hb:=below u hu hau
    rcases ha with ha|ha
    ·omega
    ·rcases hkb.2.2 b ha with ⟨x,hx⟩|h7
     ·have:=(zma h hk hr hx).2.1 u hu
      rw [hau] at this;cases this
     ·omega
   ·intro ha
    by_cases hu: ∃ u∈ybk rec.nd (S.take k) 0,yha u b=true
    ·rw [if_pos hu]
    ·rw [if_neg hu]
     have hntc:b∉rec.out.tc:=fun e=>ha (zb6.2 (.inr e))
     have hnr: ¬ (rec.base<=b/\b<rec.out.next):=fun e=>ha (zb6.2 (.inl e))
     rcases Nat.lt_or_ge b (atB S s'.next k) with hlt|hge
     ·rw [hkb.1 b hlt hntc]
      obtain ⟨h1,_⟩:=hf.yes hrun
      rw [hfp] at h1
      have h3:yd7 .leaf (ybk rec.nd (S.take k) 0) (atH S s'.heap k)=rec.inp:=Option.some.inj h1
      rw [<-h3,zeb _ _ _ b hus,if_neg hu]
     ·have hge2:rec.out.next<=b:=by rw [hbase] at hge;omega
      have e1:rec.out.heap.get b=none:=by
       cases hx:rec.out.heap.get b with
       |none=>rfl
       |some x=>have:=hkb.2.1 b x hx;rw [hn] at this;omega
      have e2:(atH S s'.heap k).get b=none:=by
       cases hx:(atH S s'.heap k).get b with
       |none=>rfl
       |some x=>have:=hL k (qV _) b x hx;omega
      rw [e1,e2]
theorem ymf (h:Recs T pd r sz ops tm0 s0 S tm' s'): ∀ k,k<=ops.length->(∀ j,j<k->(yax S tm' s').Kept j)-> ∀ j,j<=k-> ∀ b x,(atH S s'.heap j).get b=some x->b<atB S s'.next j
 |0,_,_,j,hj,b,x,hx=>by
  have:j=0:=by omega
  subst this
  rw [h.h0] at hx
  rw [h.b0]
  exact h.low b x hx
 |k+1,hk,hK,j,hj,b,x,hx=>by
  have ih:=ymf h k qF fun j hj=>hK j qF
  rcases Nat.lt_or_ge j (k+1) with h1|h1
  ·exact ih j qF b x hx
  ·have:j=k+1:=by omega
   subst this
   obtain ⟨o,rec,ho,hr,hf,hn⟩:=h.get (show k<ops.length by omega)
   have hp:=ymg h (show k<ops.length by omega) ih (fun j hj=>hK j qF) b
   by_cases ha:(yax S tm' s').aff k b
   ·rw [hp.1 ha] at hx
    exact (hK k qF).2.1 b x hx
   ·rw [hp.2 ha] at hx
    exact qQ (ih k (qV _) b x hx) (h.mono (Nat.le_succ k) hk)
theorem zje (h:Recs T pd r sz ops tm0 s0 S tm' s'):(yax S tm' s').Good T r sz ops tm0 s0:=by
 have hltk: ∀ k j,k<ops.length->(yax S tm' s').nd k j=true->j<k:=fun k=>by
  induction k using Nat.strongRecOn with
  |_ k ih=>
   intro j hk hj
   obtain ⟨o,rec,ho,hr,hf,hn⟩:=h.get hk
   rw [zdj hr] at hj
   obtain ⟨h1,h2⟩:=h.nd ho hr hf.nd
   obtain ⟨e,he,hb,hj|hj⟩:=(h2 j).1 hj
   ·rw [hj];exact h1 e he hb
   ·have h3:=h1 e he hb
    have:=ih e.on h3 j qF hj
    omega
 refine ⟨h.b0,h.low,fun k hk=>h.mono (Nat.le_succ k) hk,fun k hk=>?_,h.t0,h.h0,hltk,fun k o ho e he hb=>?_,fun k=>?_,fun k o j ho hj=>?_,fun k o ho=>?_,fun k o ho hrun hkd=>?_,fun k hk hrun=>?_,fun k o ho=>?_,fun k j o o' ho ho' hjk hn=>?_,fun k b x hk hx=>?_,fun i k b x hik hk hn hx hb=>?_,fun k hk hK b=>?_⟩
 ·obtain ⟨o,rec,ho,hr,hf,hn⟩:=h.get hk
  rw [zbu hr];exact hn.symm
 ·obtain ⟨o2,rec,ho2,hr,hf,hn⟩:=h.get (qO ho).1
  rw [ho] at ho2
  cases ho2
  obtain ⟨h1,h2⟩:=h.nd ho hr hf.nd
  exact ⟨h1 e he hb,by rw [zdj hr];exact (h2 e.on).2 ⟨e,he,hb, .inl rfl⟩⟩
 ·induction k using Nat.strongRecOn with
  |_ k ih=>
   intro j i hk hj hi
   obtain ⟨o,rec,ho,hr,hf,hn⟩:=h.get hk
   obtain ⟨h1,h2⟩:=h.nd ho hr hf.nd
   rw [zdj hr] at hj ⊢
   obtain ⟨e,he,hb,hj|hj⟩:=(h2 j).1 hj
   ·exact (h2 i).2 ⟨e,he,hb, .inr (hj ▸ hi)⟩
   ·exact (h2 i).2 ⟨e,he,hb, .inr (ih e.on (h1 e he hb) j i (by have:=h1 e he hb;omega) hj hi)⟩
 ·obtain ⟨o2,rec,ho2,hr,hf,hn⟩:=h.get (qO ho).1
  rw [ho] at ho2
  cases ho2
  obtain ⟨h1,h2⟩:=h.nd ho hr hf.nd
  rw [zdj hr] at hj
  exact (h2 j).1 hj
 ·obtain ⟨o2,rec,ho2,hr,hf,hn⟩:=h.get (qO ho).1
  rw [ho] at ho2
  cases ho2
  rw [zc9 hr];exact hf.wan
 ·obtain ⟨o2,rec,ho2,hr,hf,hn⟩:=h.get (qO ho).1
  rw [ho] at ho2
  cases ho2
  rw [zc9 hr] at hrun
  rw [zcn hr,zjf hr,zbu hr]
  rw [zgh hr] at hkd
  have:=zet (hf.yes hrun).2.1
  cases hh:rec.hand with
  |none=>rw [hh] at this;exact this
  |some x=>rw [hh] at hkd;cases hkd
 ·obtain ⟨o2,rec,ho2,hr,hf,hn⟩:=h.get hk
  rw [zc9 hr] at hrun
  rw [zcn hr,zjf hr,zbu hr]
  obtain ⟨k1,k2,k3,_⟩:=hf.no hrun
  exact ⟨k1,k2,k3⟩
 ·obtain ⟨o2,rec,ho2,hr,hf,hn⟩:=h.get (qO ho).1
  rw [ho] at ho2
  cases ho2
  rw [zjf hr];exact hf.put
 ·obtain ⟨o2,rec,ho2,hr,hf,_⟩:=h.get (qO ho).1
  rw [ho] at ho2
  cases ho2
  obtain ⟨o3,u,ho3,hu,hfu,_⟩:=h.get (qO ho').1
  rw [ho'] at ho3
  cases ho3
  rw [zdj hr] at hn
  have:=hf.apart u (zh6 _ 0 j u (by rw [List.getElem?_take,if_pos hjk];exact hu) (by rw [Nat.zero_add];exact hn))
  rw [hfu.eo] at this
  exact this
 ·obtain ⟨o2,rec,ho2,hr,hf,_⟩:=h.get hk
  rw [zcn hr] at hx
  obtain ⟨k1,k2,_⟩:=zma h hk hr hx
  refine ⟨k1,fun j hj hn ha=>?_⟩
  obtain ⟨o3,u,ho3,hu,hfu,_⟩:=h.get (show j<ops.length by omega)
  rw [zdj hr] at hn
  rw [zid h qF hu,k2 u (zh6 _ 0 j u (by rw [List.getElem?_take,if_pos hj];exact hu) (by rw [Nat.zero_add];exact hn))] at ha
  cases ha
 ·obtain ⟨o2,rec,ho2,hr,hf,_⟩:=h.get hk
  obtain ⟨o3,u,ho3,hu,hfu,_⟩:=h.get (show i<ops.length by omega)
  rw [zdj hr] at hn
  rw [zcn hu] at hx
  rw [zbu hr]
  intro htc
  have hmem:=zh6 (nd:=rec.nd) (S.take k) 0 i u (by rw [List.getElem?_take,if_pos hik];exact hu) (by rw [Nat.zero_add];exact hn)
  cases hrun:rec.run
  ·obtain ⟨_,h2,_⟩:=hf.no hrun
   rw [h2] at htc;cases htc
  ·have h3:=(hf.yes hrun).2.2.1 u hmem
   unfold Yd8 at h3
   cases hfp:u.fp with
   |some bs=>
    rw [hfp] at h3
    have h4:=List.all_eq_true.1 h3 b ((zma h qF hu hx).2.2 bs hfp)
    rw [zh5.2 htc] at h4
    cases h4
   |none=>
    rw [hfp] at h3
    have h4:=qS (List.all_eq_true.1 h3 b htc)
    have h5:=h.mono (show i<=k by omega) qF
    have hb:b<atB S s'.next i:=hb
    omega
 ·exact ymg h hk (ymf h k qF fun j hj=>hK j qF) hK b
end
def kvL (R:List Rec)(k:Nat):Option (ByteArray × Value):=match R[k]? with
 |some u=>match u.hand with
  |some (some (_,k,v))=>some (k,v)
  |_=>none
 |none=>none
theorem zc4 {R:List Rec}{k:Nat}{e:ByteArray × Value}(h:kvL R k=some e): ∃ u b,R[k]?=some u/\u.hand=some (some (b,e.1,e.2)):=by
 unfold kvL at h
 split at h
 ·rename_i u hu
  split at h
  ·rename_i b k v hh
   cases h
   exact ⟨u,b,hu,hh⟩
  ·cases h
 ·cases h
theorem zd7 (kk:ByteArray): ∀ (R:List Rec) (i0:Nat),(yb2 kk (yeh R) i0=none/\ ∀ k v,kvL R k≠some (kk,v))∨ ∃ k v i,kvL R k=some (kk,v)/\yb2 kk (yeh R) i0=some (i,v)
 | [],_=> .inl ⟨rfl,fun k v h=>by obtain ⟨u,b,h1,_⟩:=zc4 h;simp at h1⟩
 |u::l,i0=>by
  have skip:(∀ b k v,u.hand≠some (some (b,k,v)))->yeh (u::l)=yeh l:=fun h=>by
   rw [yeh]
   split
   ·rename_i hh;exact absurd hh (h _ _ _)
   ·rfl
  by_cases hh: ∃ b k v,u.hand=some (some (b,k,v))
  ·obtain ⟨b,k0,v0,hh⟩:=hh
   have e1:yeh (u::l)=(k0,v0)::yeh l:=by rw [yeh,hh]
   rw [e1]
   simp only [yb2]
   cases hk:kk==k0
   ·rcases zd7 kk l (i0+1) with ⟨h1,h2⟩|⟨k,v,i,h1,h2⟩
    ·refine .inl ⟨h1,fun k v h=>?_⟩
     cases k with
     |zero=>
      obtain ⟨u',b',h3,h4⟩:=zc4 h
      simp at h3
      subst h3
      rw [hh] at h4
      cases h4
      rw [ziv.2 rfl] at hk
      cases hk
     |succ k=>exact h2 k v h
    ·exact .inr ⟨k+1,v,i,h1,h2⟩
   ·refine .inr ⟨0,v0,i0,?_,rfl⟩
    rw [ziv.1 hk]
    show (match u.hand with|some (some (_,k,v))=>some (k,v)|_=>none)=_
    rw [hh]
  ·rw [skip fun b k v h=>hh ⟨b,k,v,h⟩]
   rcases zd7 kk l i0 with ⟨h1,h2⟩|⟨k,v,i,h1,h2⟩
   ·refine .inl ⟨h1,fun k v h=>?_⟩
    cases k with
    |zero=>
     obtain ⟨u',b',h3,h4⟩:=zc4 h
     simp at h3
     subst h3
     exact hh ⟨_,_,_,h4⟩
    |succ k=>exact h2 k v h
   ·exact .inr ⟨k+1,v,i,h1,h2⟩
theorem zpa : ∀ (R:List Rec),yf7 (yeh R)=true-> ∀ j k e e',kvL R j=some e->kvL R k=some e'->e.1=e'.1->j=k
 | [],_,j,k,e,e',h,_,_=>by obtain ⟨u,b,h1,_⟩:=zc4 h;simp at h1
 |u::l,hd,j,k,e,e',h1,h2,he=>by
  have tl:yf7 (yeh l)=true:=by
   rw [yeh] at hd
   split at hd
   ·unfold yf7 at hd
    split at hd
    ·exact hd
    ·cases hd
   ·exact hd
  have hz: ∀ k e e',kvL (u::l) 0=some e->kvL l k=some e'->e.1=e'.1->False:=fun k e e' h1 h2 he=>by
   obtain ⟨u',b',h3,h4⟩:=zc4 h1
   simp at h3
   subst h3
   have e1:yeh (u::l)=(e.1,e.2)::yeh l:=by rw [yeh,h4]
   rw [e1] at hd
   unfold yf7 at hd
   rcases zd7 e'.1 l 0 with ⟨h5,h6⟩|⟨k',v,i,h5,h6⟩
   ·exact h6 k e'.2 h2
   ·rw [he,h6] at hd
    cases hd
  cases j with
  |zero=>
   cases k with
   |zero=>rfl
   |succ k=>exact (hz k e e' h1 h2 he).elim
  |succ j=>
   cases k with
   |zero=>exact (hz j e' e h2 h1 he.symm).elim
   |succ k=>rw [zpa l tl j k e e' h1 h2 he]
theorem zi8 : ∀ (R:List Rec) (i mk base:Nat),yyx R i=some (mk,base)-> ∃ j u,mk=i+j/\R[j]?=some u/\u.hand=some none/\u.base=base
 | [],_,_,_,h=>by cases h
 |u::l,i,mk,base,h=>by
  unfold yyx at h
  split at h
  ·rename_i hh
   cases h
   exact ⟨0,u,rfl,rfl,hh,rfl⟩
  ·obtain ⟨j,v,h1,h2⟩:=zi8 l (i+1) mk base h
   exact ⟨j+1,v,by omega,h2⟩
theorem zgg {mk base:Nat}: ∀ (R:List Rec) (i:Nat),yqp mk base R i=true-> ∀ j u,R[j]?=some u->(u.hand=some none->i+j=mk)/\ ∀ b k v,u.hand=some (some (b,k,v))->b=base/\u.nd.testBit mk=true
 | [],_,_,j,u,h=>by simp at h
 |x::l,i,hc,j,u,h=>by
  unfold yqp at hc
  obtain ⟨h1,h2⟩:ykm mk base i x=true/\yqp mk base l (i+1)=true:=by
   cases hq:ykm mk base i x
   ·rw [hq] at hc;cases hc
   ·rw [hq] at hc;exact ⟨rfl,hc⟩
  unfold ykm at h1
  cases j with
  |zero=>
   simp at h
   subst h
   refine ⟨fun hh=>?_,fun b k v hh=>?_⟩
   ·rw [hh] at h1
    exact qU h1
   ·rw [hh] at h1
    simp only [Bool.and_eq_true] at h1
    exact ⟨qU h1.1,h1.2⟩
  |succ j=>
   have:=zgg l (i+1) h2 j u (by simpa using h)
   exact ⟨fun hh=>by have:=this.1 hh;omega,this.2⟩
section
variable {T:Tbl}{pd:Bool}{r:Rn}{sz:Nat}{ops:List Oper}{S:List Rec}{tm0 tm':Tm}{s0 s':ASt}{P:Program}
theorem ypb {E:Ev}(hT:T.Ok E P)(h:Recs T pd r sz ops tm0 s0 S tm' s'){mk base:Nat}(h1:yyx S 0=some (mk,base))(h2:yqp mk base S 0=true)(h3:yf7 (yeh S)=true):(yax S tm' s').base mk=base/\Pend (yax S tm' s') P ops mk (kvL S):=by
 obtain ⟨j,um,hj,hu,hh,hb⟩:=zi8 S 0 mk base h1
 have hj:mk=j:=by omega
 subst hj
 have hml:mk<ops.length:=by have:=(qO hu).1;rw [h.len] at this;exact this
 have hbase:(yax S tm' s').base mk=base:=by rw [<-hb];exact zkb hu
 have runs: ∀ {k:Nat} {o:Oper} {u:Rec},ops[k]?=some o->S[k]?=some u->u.hand.isSome=true-> ∃ o',ops[k]?=some o'/\u.run=true/\Found T pd r sz ops (S.take k) o' (atT S tm' k) (atH S s'.heap k) (atB S s'.next k) u (atT S tm' (k+1)) (atH S s'.heap (k+1)):=fun {k o u} ho hu hs=>by
  obtain ⟨o2,rec,ho2,hr,hf,hn⟩:=h.get (qO ho).1
  rw [hu] at hr
  cases hr
  refine ⟨o2,ho2,?_,hf⟩
  cases hrun:u.run with
  |true=>rfl
  |false=>rw [(hf.no hrun).2.2.2.2.2] at hs;cases hs
 obtain ⟨om,hom⟩: ∃ o,ops[mk]?=some o:=⟨ops[mk],List.getElem?_eq_getElem _⟩
 obtain ⟨om,hom,hrm,hfm⟩:=runs hom hu (by rw [hh];rfl)
 have hsm:=zet (hfm.yes hrm).2.1
 rw [hh] at hsm
 obtain ⟨⟨tm2,hop⟩,hv,hout⟩:=hsm
 refine ⟨hbase,hml,by rw [zc9 hu];exact hrm,by rw [zgh hu,hh];rfl,⟨om,tm2,hom,hop⟩,?_,?_,fun k o ho hrun hkd hne=>?_,fun k e he=>?_,fun k e he=>?_,zpa S h3⟩
 ·rw [zjf hu,hv]
  rfl
 ·rw [zbu hu,zcn hu,hout]
  rfl
 ·obtain ⟨o2,u,ho2,hr,hf,hn⟩:=h.get (qO ho).1
  rw [ho] at ho2
  cases ho2
  rw [zgh hr] at hkd
  rw [zc9 hr] at hrun
  have hs:=zet (hf.yes hrun).2.1
  obtain ⟨c1,c2⟩:=zgg S 0 h2 k u hr
  cases hx:u.hand with
  |none=>rw [hx] at hkd;cases hkd
  |some y=>
   cases y with
   |none=>exact absurd (by have:=c1 hx;omega) hne
   |some y=>
    obtain ⟨b,kk,v⟩:=y
    rw [hx] at hs
    obtain ⟨t,m,key,x,i,kt,et,ki,e1,e2,e3,e4,e5,e6,e7,e8,e9,e10⟩:=hs
    have hui:=(hT.ty _ _ e2).und
    rw [e3] at hui
    have huk:=(hT.ty _ _ e4).und
    rw [e5] at huk
    refine ⟨t,m,key,x,kt,et,kk,e1,hui,huk,?_,e7,?_,?_,?_⟩
    ·rw [hbase,<-(c2 b kk v hx).1];exact e6
    ·show (match S[k]? with|some u=>(match u.hand with|some (some (_,k,v))=>some (k,v)|_=>none)|none=>none)=_
     rw [hr]
     show (match u.hand with|some (some (_,k,v))=>some (k,v)|_=>none)=_
     rw [hx,e8]
     rfl
    ·rw [zjf hr];exact e9
    ·rw [zbu hr,zcn hr];exact e10
 ·obtain ⟨u,b,k1,k2⟩:=zc4 he
  have hk:k<ops.length:=by have:=(qO k1).1;rw [h.len] at this;exact this
  obtain ⟨o2,_,hru,_⟩:=runs (List.getElem?_eq_getElem hk) k1 (by rw [k2];rfl)
  refine ⟨hk,by rw [zc9 k1];exact hru,by rw [zgh k1,k2];rfl,fun e=>?_⟩
  rw [e,hu] at k1
  cases k1
  rw [hh] at k2;cases k2
 ·obtain ⟨u,b,k1,k2⟩:=zc4 he
  rw [zdj k1]
  exact ((zgg S 0 h2 k u k1).2 b _ _ k2).2
end
theorem zhr {E:Ev}{P:Program}{T:Tbl}(hT:T.Ok E P):Ycu E P (yhr T):=by
 intro r hC sz ops tm s tm' s' hx D ρ a w h Q hQ id
 have both: ∀ (pd:Bool) (R:List Rec) (tm1:Tm) (s1:ASt),dgo T pd r sz ops ops [] tm s.heap s.next s.tc=some (R,tm1,s1)->
  Recs T pd r sz ops tm s R tm1 s1/\(yax R tm1 s1).hpS ops.length=s1.heap/\(yax R tm1 s1).base ops.length=s1.next/\(yax R tm1 s1).tmS ops.length=tm1/\ ∀ b,b∈s1.tc↔(∃ k,k<ops.length/\b∈((yax R tm1 s1).out k).tc)∨b∈s.tc:=fun pd R tm1 s1 hd=>by
  obtain ⟨S,h1,h2,h3,h4,h5,h6,h7⟩:=zl2 ops [] tm s.heap s.next s.tc R tm1 s1 hd
  simp only [List.nil_append] at h1
  subst h1
  have hR:Recs T pd r sz ops tm s R tm1 s1:=⟨h2,h3,h4,h5,h.sim.low,fun j o ho=>by simpa using h6 j o ho⟩
  have hend: ∀ k,k=ops.length->R[k]?=none:=fun k hk=>List.getElem?_eq_none qF
  refine ⟨hR,?_,?_,?_,fun b=>?_⟩
  ·show (match R[ops.length]? with|some u=>u.hp|none=>s1.heap)=_
   rw [hend _ rfl]
  ·show (match R[ops.length]? with|some u=>u.base|none=>s1.next)=_
   rw [hend _ rfl]
  ·show (match R[ops.length]? with|some u=>u.tm|none=>tm1)=_
   rw [hend _ rfl]
  ·rw [h7 b]
   refine or_congr ⟨?_,?_⟩ Iff.rfl
   ·rintro ⟨u,hu,hb⟩
    obtain ⟨k,hk⟩:=List.getElem?_of_mem hu
    have hkl:=(qO hk).1
    exact ⟨k,by omega,by rw [zbu hk];exact hb⟩
   ·rintro ⟨k,hk,hb⟩
    obtain ⟨o,rec,ho,hr,hf,hn⟩:=hR.get hk
    rw [zbu hr] at hb
    exact ⟨rec,qP hr,hb⟩
 have hst:St E D ρ sz s tm a w.drew:=⟨h.sim.drew,h.tr,h.size,h.defers⟩
 unfold yhr at hx
 split at hx
 ·rename_i R tm1 s1 hd
  cases hx
  obtain ⟨hR,e1,e2,e3,h7⟩:=both false R _ _ hd
  have g:=zje hR
  refine wp_region_any hT.mixed ?_
  have:=ype (Q:=Q) (tcF:=s'.tc) g hT hC hst (fun k hk hrun=>?_) h7 fun D' ρ' a' w' k1 k2=>?_
  ·simpa using this
  ·obtain ⟨o,rec,ho,hr,hf,hn⟩:=hR.get hk
   rw [zc9 hr] at hrun
   rw [zgh hr,zj6 (hf.yes hrun).2.1]
   rfl
  ·rw [e1,e2,e3] at k1
   rw [e1,e2] at k2
   exact hQ D' ρ' a' w' k1 (Ex.trans h.sim.low (Ex.drew h.sim) k2)
 ·split at hx
  ·rename_i R tm1 s1 hd
   unfold pfin at hx
   split at hx
   ·rename_i mk base hmk
    obtain ⟨hc,hx⟩:=zas hx
    cases hx
    simp only [Bool.and_eq_true] at hc
    obtain ⟨hR,e1,e2,e3,h7⟩:=both true R _ _ hd
    have g:=zje hR
    obtain ⟨hb,hp⟩:=ypb hT hR hmk hc.1 hc.2.1
    refine wp_region_any hT.mixed ?_
    have:=ypc (Q:=Q) (tcF:=s1.tc) (es:=yeh R) g hp hT hC hst h7 (by rw [hb];have:=qS hc.2.2;omega) (fun kk=>zd7 kk R 0) fun D' ρ' a' w' k1 k2=>?_
    ·simpa using this
    ·rw [e1,e2,e3,hb] at k1
     rw [e1,e2,hb] at k2
     exact hQ D' ρ' a' w' k1 (Ex.trans h.sim.low (Ex.drew h.sim) k2)
   ·cases hx
  ·cases hx
section
variable {E:Ev}{D D1:Nat->Prop}{ρ ρ1:Nat->Pl}{s s1:ASt}{w w1:World}
theorem yzn {g m nh:Tr AObj}(h:Sim E D ρ s w)(hg: ∀ b x,g.get b=some x->s.heap.get b=some x/\x.wr=false)(h1:Sim E D1 ρ1 s1 w1)(k:Ex D ⟨g,s.next,[]⟩ ρ w D1 s1 ρ1 w1)
 (hn: ∀ b x,nh.get b=some x->s1.heap.get b=some x/\s.next<=b) (hm: ∀ b,m.get b=match nh.get b with|some x=>some x|none=>s.heap.get b):
 Sim E D1 ρ1 ⟨m,s1.next,s.tc⟩ w1/\Ex D s ρ w D1 ⟨m,s1.next,s.tc⟩ ρ1 w1:=by
 have nx:s.next<=s1.next:=k.next
 have nob: ∀ b,b∈s1.tc-> ∀ o,g.get b=some o->False:=fun b hb o ho=>by
  have:=k.twr b o hb qH ho
  rw [(hg b o ho).2] at this;cases this
 have far: ∀ b x,nh.get b=some x->w.heap.size<=(ρ1 b).blk:=fun b x hb=>by
  obtain ⟨h2,h3⟩:=hn b x hb
  rcases Nat.lt_or_ge (ρ1 b).blk w.heap.size with hl|hl
  ·obtain ⟨c,hc,⟨o,ho⟩,_⟩:=k.born b x h3 h2 hl
   exact (nob c hc o ho).elim
  ·exact hl
 have fr: ∀ j,j<w.heap.size->w1.heap[j]?=w.heap[j]?:=fun j hj=>k.frame j hj fun b hb o ho=>(nob b hb o ho).elim
 have old: ∀ b x,nh.get b=none->s.heap.get b=some x->ρ1 b=ρ b:=fun b x _ hb=>k.same b (h.low b x hb)
 have cases': ∀ b x,m.get b=some x->(nh.get b=some x)∨(nh.get b=none/\s.heap.get b=some x):=fun b x hb=>by
  rw [hm] at hb
  cases hx:nh.get b with
  |some y=>rw [hx] at hb;exact .inl hb
  |none=>rw [hx] at hb;exact .inr ⟨rfl,hb⟩
 refine ⟨⟨fun b x hb=>?_,h1.dn,fun b x hb=>?_,fun b x hb=>?_,fun b c x y hb hc hne hwr=>?_,h1.gl,h1.glob,fun x q ob hk=>?_⟩,⟨nx,k.sub,k.fresh,k.same,fun b x hlt hb=>?_,fun b x hge hb hl=>?_,fun _ h=>h,k.os,k.tape,k.output,k.size,fun j hj _=>fr j hj,fun b hlt _=>?_,fun b o hb hnb=>absurd hb hnb,fun b hb hnb=>absurd hb hnb,k.snew,k.sbig⟩⟩
 ·rcases cases' b x hb with hb|⟨_,hb⟩
  ·exact h1.lt b x (hn b x hb).1
  ·exact k.sub b (h.lt b x hb)
 ·rcases cases' b x hb with hb|⟨hz,hb⟩
  ·exact h1.bd b x (hn b x hb).1
  ·rw [old b x hz hb]
   exact (h.bd b x hb).kept k.sub (fun j hj=>k.same j (h.dn j hj)) (fr _)
 ·rcases cases' b x hb with hb|⟨hz,hb⟩
  ·exact h1.inh b x (hn b x hb).1
  ·rw [old b x hz hb]
   exact qQ (h.inh b x hb) k.size
 ·rcases cases' b x hb with hb|⟨hz,hb⟩<;>rcases cases' c y hc with hc|⟨hz2,hc⟩
  ·exact h1.apart b c x y (hn b x hb).1 (hn c y hc).1 hne hwr
  ·rw [old c y hz2 hc]
   have:=far b x hb
   have:=h.inh c y hc
   omega
  ·rw [old b x hz hb]
   have:=far c y hc
   have:=h.inh b x hb
   omega
  ·rw [old b x hz hb,old c y hz2 hc]
   exact h.apart b c x y hb hc hne hwr
 ·refine ⟨(h1.prot x q ob hk).1,fun b y hb hwr=>?_⟩
  rcases cases' b y hb with hb|⟨hz,hb⟩
  ·exact (h1.prot x q ob hk).2 b y (hn b y hb).1 hwr
  ·rw [old b y hz hb]
   have hbs:=h.inh b y hb
   rcases Nat.lt_or_ge x s.next with hx|hx
   ·rw [k.same x hx] at hk
    exact (h.prot x q ob hk).2 b y hb hwr
   ·rcases Nat.lt_or_ge x s1.next with hx2|hx2
    ·have:=k.snew x hx hx2 q ob hk
     omega
    ·rw [k.sbig x hx2] at hk
     exact (h.prot x q ob hk).2 b y hb hwr
 ·rcases cases' b x hb with hb|⟨hz,hb⟩
  ·have:=(hn b x hb).2
   omega
  ·exact ⟨x,hb⟩
 ·rcases cases' b x hb with hb|⟨hz,hb⟩
  ·have:=far b x hb
   omega
  ·have:=h.low b x hb
   omega
 ·rw [zav,hm]
  cases hx:nh.get b with
  |some y=>have:=(hn b y hx).2;omega
  |none=>rfl
end
def eqV :Value->Value->Bool
 | .bool a, .bool b=>cond a b (cond b false true)
 | .string a, .string b=>a==b
 | .slice (some ⟨i,o,none⟩) n c, .slice (some ⟨i',o',none⟩) n' c'=>Nat.beq i i'&&(Nat.beq o o'&&(Nat.beq n n'&&Nat.beq c c'))
 |_,_=>false
def yru :List Value->List Value->Bool
 | [],[]=>true
 |a::l,b::m=>cond (eqV a b) (yru l m) false
 |_,_=>false
theorem yrt {a b:Value}(h:eqV a b=true):a=b:=by
 unfold eqV at h
 split at h
 ·rename_i a b
  cases a<;>cases b<;>first |rfl|cases h
 ·rw [ziv.1 h]
 ·simp only [Bool.and_eq_true] at h
  rw [qU h.1,qU h.2.1,qU h.2.2.1,qU h.2.2.2]
 ·cases h
theorem zkl : ∀ {a b:List Value} (_:yru a b=true),a=b
 | [],[],_=>rfl
 | [],_::_,h=>by cases h
 |_::_,[],h=>by cases h
 |a::l,b::m,h=>by
  unfold yru at h
  cases hx:eqV a b
  ·rw [hx] at h;cases h
  ·rw [hx] at h
   rw [yrt hx,zkl h]
def eqO :Option AObj->Option AObj->Bool
 |some ⟨false, .cells e z l⟩,some ⟨false, .cells e' z' l'⟩=>Nat.beq e e'&&(Nat.beq z z'&&yru l l')
 |_,_=>false
theorem zl6 {a b:Option AObj}(h:eqO a b=true):a=b/\ ∃ x,a=some x/\x.wr=false:=by
 unfold eqO at h
 split at h
 ·simp only [Bool.and_eq_true] at h
  rw [qU h.1,qU h.2.1,zkl h.2.2]
  exact ⟨rfl,_,rfl,rfl⟩
 ·cases h
structure Ans where
 args:List Value
 g:Tr AObj
 ids:List Nat
 next:Nat
 v:Value
 nh:Tr AObj
 nids:List Nat
 next2:Nat
def Ans.sp (A:Ans)(args:List Value)(s:ASt):Option (Value × ASt):=
 cond (yru args A.args&&(Nat.beq s.next A.next&&A.ids.all fun b=>eqO (s.heap.get b) (A.g.get b))) (some (A.v,⟨yc7 A.nh A.nids s.heap,A.next2,s.tc⟩)) none
structure Ans.Ok (A:Ans)(r:Rn)(f:FuncId):Prop where
 gi: ∀ b x,A.g.get b=some x->b∈A.ids
 ni: ∀ b∈A.nids,b+1<2 ^ yad/\A.next<=b/\ ∃ x,A.nh.get b=some x
 run: ∃ s1,r.call f A.args ⟨A.g,A.next,[]⟩=some (A.v,s1)/\s1.next=A.next2/\ ∀ b∈A.nids,s1.heap.get b=A.nh.get b
section
variable {E:Ev}{P:Program}{r:Rn}
theorem Sim.sub {D:Nat->Prop}{ρ:Nat->Pl}{s:ASt}{w:World}(h:Sim E D ρ s w){g:Tr AObj}(hg: ∀ b x,g.get b=some x->s.heap.get b=some x)(tc:List Nat):Sim E D ρ ⟨g,s.next,tc⟩ w:=
 ⟨fun b x hb=>h.lt b x (hg b x hb),h.dn,fun b x hb=>h.bd b x (hg b x hb),fun b x hb=>h.inh b x (hg b x hb),fun b c x y hb hc=>h.apart b c x y (hg b x hb) (hg c y hc),h.gl,h.glob,fun x k ob hk=>⟨(h.prot x k ob hk).1,fun b y hb=>(h.prot x k ob hk).2 b y (hg b y hb)⟩⟩
theorem yq4 {A:Ans}{f:FuncId}(hA:A.Ok r f)(hC:ybl E P r){args:List Value}{s s':ASt}{v:Value}(hx:A.sp args s=some (v,s')){D:Nat->Prop}{ρ:Nat->Pl}{w:World}{args':List Value}(h:Sim E D ρ s w)(hr:Rvs E D ρ args args'):
 Calls P f ⟨args'⟩ w fun e w'=> ∃ v' ρ' D',e= .returned v'/\Rv E D' ρ' v v'/\Sim E D' ρ' s' w'/\Ex D s ρ w D' s' ρ' w':=by
 unfold Ans.sp at hx
 obtain ⟨h1,h2⟩:=zax hx
 simp only [Bool.and_eq_true] at h1
 obtain ⟨ha,hn,hids⟩:=h1
 have ha:=zkl ha
 have hn:=qU hn
 cases h2
 subst ha
 obtain ⟨s1,k1,k2,k3⟩:=hA.run
 have hsub: ∀ b x,A.g.get b=some x->s.heap.get b=some x/\x.wr=false:=fun b x hb=>by
  obtain ⟨e1,y,e2,e3⟩:=zl6 (List.all_eq_true.1 hids b (hA.gi b x hb))
  rw [e1,hb] at e2
  cases e2
  exact ⟨by rw [e1,hb],e3⟩
 rw [<-hn] at k1
 refine (hC f _ _ _ _ k1 D ρ w args' (h.sub (fun b x hb=>(hsub b x hb).1) []) hr).mono ?_
 rintro e w' ⟨v',ρ',D',rfl,j1,j2,j3⟩
 have hnh: ∀ b x,(yc7 A.nh A.nids .leaf).get b=some x->s1.heap.get b=some x/\s.next<=b:=fun b x hb=>by
  rw [zcf _ _ _ b fun y hy=>(hA.ni y hy).1] at hb
  by_cases hm:b∈A.nids
  ·rw [if_pos hm] at hb
   exact ⟨by rw [k3 b hm,hb],by rw [hn];exact (hA.ni b hm).2.1⟩
  ·rw [if_neg hm,Tr.get_leaf] at hb;cases hb
 obtain ⟨g1,g2⟩:=yzn (m:=yc7 A.nh A.nids s.heap) h hsub j2 j3 hnh fun b=>by
  rw [zcf _ _ _ b fun y hy=>(hA.ni y hy).1,zcf _ _ _ b fun y hy=>(hA.ni y hy).1]
  by_cases hm:b∈A.nids
  ·rw [if_pos hm,if_pos hm]
   obtain ⟨x,hx⟩:=(hA.ni b hm).2.2
   rw [hx]
  ·rw [if_neg hm,if_neg hm,Tr.get_leaf]
 rw [k2] at g1 g2
 exact ⟨v',ρ',D',rfl,j1,g1,g2⟩
end
section
variable {α:Type}(enc:α->List Value)(C:Nat)
def flat (l:List α):List Value:=l.flatMap enc
theorem zba (x:α)(l:List α):flat enc (x::l)=enc x++flat enc l:=rfl
theorem zc2 (a b:List α):flat enc (a++b)=flat enc a++flat enc b:=by unfold flat;rw [List.flatMap_append]
theorem zl7 (x:α):flat enc [x]=enc x:=by rw [zba];exact List.append_nil _
variable {enc C}
theorem zau (hC: ∀ x,(enc x).length=C)(l:List α):(flat enc l).length=l.length*C:=by
 induction l with
 |nil=>simp [flat]
 |cons x l ih=>rw [zba,List.length_append,ih,hC,List.length_cons,Nat.succ_mul];omega
theorem zbf (hC: ∀ x,(enc x).length=C): ∀ {l:List α} {j:Nat} {x:α} (_:l[j]?=some x) (k:Nat) (_:k<C),(flat enc l)[j*C+k]?=(enc x)[k]?
 |y::l,0,x,h,k,hk=>by
  simp at h;subst h
  rw [zba,Nat.zero_mul,Nat.zero_add,List.getElem?_append_left (by rw [hC];exact hk)]
 |y::l,j+1,x,h,k,hk=>by
  have h':l[j]?=some x:=by simpa using h
  have:=zbf hC h' k hk
  rw [zba,List.getElem?_append_right (by rw [hC,Nat.succ_mul];omega),hC,<-this]
  congr 1
  rw [Nat.succ_mul];omega
theorem zi1 (hC: ∀ x,(enc x).length=C): ∀ (l:List α) (k:Nat),flat enc (l.drop k)=(flat enc l).drop (k*C)
 |l,0=>by simp
 | [],k+1=>by simp [flat]
 |x::l,k+1=>by
  have e:(k+1)*C=(enc x).length+k*C:=by rw [hC,Nat.succ_mul];omega
  rw [List.drop_succ_cons,zi1 hC l k,zba,e,<-List.drop_drop,List.drop_left]
end
theorem zaw (b off j:Nat):(⟨b,off,none⟩:Addr).add j=⟨b,off+j,none⟩:=by unfold Addr.add;split<;>simp_all
def Fl (w:World)(C:Nat)(A:Option Addr)(n:Nat)(xs:List Value):Prop:=
 xs.length=n*C/\(0<n-> ∃ b off,A=some ⟨b,off,none⟩/\ ∀ (j:Nat) (u:Value),xs[j]?=some u->w.cell? ⟨b,off+j,none⟩=some u)
section
variable {w w':World}{C n:Nat}{A:Option Addr}{xs:List Value}
theorem Fl.nil (w:World)(C:Nat)(A:Option Addr):Fl w C A 0 []:=⟨by simp,fun h=>absurd h qF⟩
theorem Fl.later (h:Fl w C A n xs)(hb:Below w.heap.size w w'):Fl w' C A n xs:=
 ⟨h.1,fun hn=>by
  obtain ⟨b,off,hA,hc⟩:=h.2 hn
  exact ⟨b,off,hA,fun j u hx=>qM hb (hc j u hx)⟩⟩
theorem Fl.kept {row:Option Nat}(h:Fl w C A n xs)(hg:w.grownBy w' row)(hA:0<n-> ∀ a,A=some a->some a.block≠row):Fl w' C A n xs:=
 ⟨h.1,fun hn=>by
  obtain ⟨b,off,e,hc⟩:=h.2 hn
  exact ⟨b,off,e,fun j u hx=>hg.cell (hc j u hx) (hA hn ⟨b,off,none⟩ e)⟩⟩
theorem Fl.set (h:Fl w C A n xs)(p:Addr)(v:Value)(hp:0<n-> ∀ a,A=some a->a.block≠p.block):Fl (w.setCell p v) C A n xs:=
 ⟨h.1,fun hn=>by
  obtain ⟨b,off,e,hc⟩:=h.2 hn
  exact ⟨b,off,e,fun j u hx=>by rw [World.cell?_setCell_other (h:=fun e2=>hp hn ⟨b,off,none⟩ e (by rw [e2]))];exact hc j u hx⟩⟩
theorem Fl.news {ad:Addr}(h:Fl w C (some ad) n xs): ∀ j u,xs[j]?=some u->w.cell? (ad.add j)=some u:=by
 intro j u hj
 have hl:=(qO hj).1
 obtain ⟨b,off,hA,hc⟩:=h.2 (by rcases Nat.eq_zero_or_pos n with h0|h0;(have:=h.1;rw [h0] at this;omega);exact h0)
 cases hA
 rw [zaw];exact hc j u hj
theorem Fl.lt (h:Fl w C A n xs)(hC:0<C)(hn:0<n): ∃ b off,A=some ⟨b,off,none⟩/\b<w.heap.size:=by
 obtain ⟨b,off,e,hc⟩:=h.2 hn
 have hl:0<xs.length:=by rw [h.1];exact Nat.mul_pos hn hC
 exact ⟨b,off,e,qX _ _ (hc 0 _ (List.getElem?_eq_getElem hl))⟩
theorem Fl.drop (h:Fl w C A n xs)(k:Nat)(hk:k<=n){b off:Nat}(hA:A=some ⟨b,off,none⟩):Fl w C (some ⟨b,off+k*C,none⟩) (n - k) (xs.drop (k*C)):=by
 refine ⟨by rw [List.length_drop,h.1,Nat.sub_mul],fun hn=>?_⟩
 obtain ⟨b',off',e,hc⟩:=h.2 qF
 rw [hA] at e
 cases e
 refine ⟨b,off+k*C,rfl,fun j u hj=>?_⟩
 rw [List.getElem?_drop] at hj
 have:=hc _ u hj
 rw [<-Nat.add_assoc] at this
 exact this
theorem Fl.take (h:Fl w C A n xs)(k:Nat)(hk:k<=n):Fl w C A k (xs.take (k*C)):=by
 refine ⟨by rw [List.length_take,h.1];have:=Nat.mul_le_mul_right C hk;omega,fun hn=>?_⟩
 obtain ⟨b',off',e,hc⟩:=h.2 qF
 refine ⟨b',off',e,fun j u hj=>hc j u ?_⟩
 rw [List.getElem?_take] at hj
 split at hj
 ·exact hj
 ·cases hj
theorem zd9 {base e:Nat}{v:Value}(h:w.ownsRow base e C v n xs): ∃ A c,v= .slice A n c/\Fl w C A n xs/\(∀ a,A=some a->base<=a.block):=by
 rcases h.2 with ⟨rfl,rfl⟩|⟨g,cap,cur,rfl,hbg,_,_,_,_,_⟩
 ·exact ⟨none,0,rfl,⟨h.1,fun h=>absurd h qF⟩,fun a h=>by simp at h⟩
 ·refine ⟨some ⟨g,0,none⟩,cap,rfl,⟨h.1,fun _=>⟨g,0,rfl,fun j u hx=>?_⟩⟩,fun a h=>by cases h;exact hbg⟩
  have hc:=h.cells (g:=g) rfl j u hx
  rw [zaw] at hc;exact hc
theorem za7 {b off:Nat}(hl:xs.length=n*C)(h: ∀ j u,xs[j]?=some u->w.cell? ⟨b,off+j,none⟩=some u):Fl w C (some ⟨b,off,none⟩) n xs:=⟨hl,fun _=>⟨b,off,rfl,h⟩⟩
end
section
variable {α:Type}{enc:α->List Value}{w:World}{C n:Nat}{A:Option Addr}{l:List α}
theorem Fl.count (h:Fl w C A n (flat enc l))(hC: ∀ x,(enc x).length=C)(h0:0<C):l.length=n:=by
 have:=h.1
 rw [zau hC] at this
 exact Nat.eq_of_mul_eq_mul_right h0 this
theorem Fl.cells (h:Fl w C A n (flat enc l))(hC: ∀ x,(enc x).length=C)(hn:0<n): ∃ b off,A=some ⟨b,off,none⟩/\ ∀ (j:Nat) (x:α) (k:Nat) (u:Value),l[j]?=some x->k<C->(enc x)[k]?=some u->w.cell? ⟨b,off+j*C+k,none⟩=some u:=by
 obtain ⟨b,off,e,hc⟩:=h.2 hn
 refine ⟨b,off,e,fun j x k u hx hk hu=>?_⟩
 rw [Nat.add_assoc]
 exact hc _ u (by rw [zbf hC hx k hk];exact hu)
end
def yaw (x:Int):List Value:= [.int .i64 x]
def ycd (x:ByteArray):List Value:= [.string x]
theorem zex (x:Int):(yaw x).length=1:=rfl
theorem zez (x:ByteArray):(ycd x).length=1:=rfl
def rInt (w:World)(A:Option Addr)(n:Nat)(l:List Int):Prop:=Fl w 1 A n (flat yaw l)
def rStr (w:World)(A:Option Addr)(n:Nat)(l:List ByteArray):Prop:=Fl w 1 A n (flat ycd l)
section
variable {w w':World}{A:Option Addr}{n:Nat}
theorem rInt.len {l:List Int}(h:rInt w A n l):l.length=n:=h.count zex qF
theorem rStr.len {l:List ByteArray}(h:rStr w A n l):l.length=n:=h.count zez qF
theorem rInt.opn {l:List Int}(h:rInt w A n l)(hn:0<n): ∃ b off,A=some ⟨b,off,none⟩/\ ∀ (j:Nat) (x:Int),l[j]?=some x->w.cell? ⟨b,off+j,none⟩=some (.int .i64 x):=by
 obtain ⟨b,off,e,hc⟩:=h.cells zex hn
 exact ⟨b,off,e,fun j x hx=>by have:=hc j x 0 _ hx qF rfl;simpa using this⟩
theorem rStr.opn {l:List ByteArray}(h:rStr w A n l)(hn:0<n): ∃ b off,A=some ⟨b,off,none⟩/\ ∀ (j:Nat) (x:ByteArray),l[j]?=some x->w.cell? ⟨b,off+j,none⟩=some (.string x):=by
 obtain ⟨b,off,e,hc⟩:=h.cells zez hn
 exact ⟨b,off,e,fun j x hx=>by have:=hc j x 0 _ hx qF rfl;simpa using this⟩
theorem rInt.later {l:List Int}(h:rInt w A n l)(hb:Below w.heap.size w w'):rInt w' A n l:=Fl.later h hb
theorem rStr.later {l:List ByteArray}(h:rStr w A n l)(hb:Below w.heap.size w w'):rStr w' A n l:=Fl.later h hb
end
theorem za6 {B:Nat}{a w:World}(h:Below B a w)(n:Nat):Below B a (w.drewN n):=⟨h.os,h.tape,h.output,h.size,h.block⟩
theorem yrd {B:Nat}{a b c:World}(h:Below B a b)(hB:B<=a.heap.size)(k:Below b.heap.size b c):Below B a c:=h.trans (k.mono (qR hB h.size))
theorem za9 {w w':World}{B:Nat}{row:Option Nat}(hg:w.grownBy w' row)(hB:B<=w.heap.size)(hr: ∀ k,row=some k->B<=k):Below B w w':=
 ⟨hg.os,hg.tape,hg.output,hg.size,fun k hk=>hg.block k qF (fun e=>by have:=hr k e.symm;omega)⟩
theorem zak {a b:Int}(h:a=b):Ending.returned (.int .i64 a)=Ending.returned (.int .i64 b):=by rw [h]
theorem zal {a b:Bool}(h:a=b):Ending.returned (.bool a)=Ending.returned (.bool b):=by rw [h]
theorem toList_inj {a b:ByteArray}(h:a.toList=b.toList):a=b:=by
 rw [ByteArray.toList_eq,ByteArray.toList_eq] at h
 cases a;cases b;simpa using h
theorem zah {α:Type}{l:List α}{k:Nat}(h:k<l.length): ∃ x,l[k]?=some x:=⟨l[k],List.getElem?_eq_getElem h⟩
end
end
section
section
open Go.RowKit
structure Val where
 k:Int
 m:Int
 s:ByteArray
def yat (x:Val):List Value:= [.int .i64 x.k, .int .i64 x.m, .string x.s]
theorem za4 (x:Val):(yat x).length=3:=rfl
theorem ykh (x:Val): ∀ u∈yat x,u.oneCell'=true:=fun u hx=>by
 simp [yat] at hx
 rcases hx with rfl|rfl|rfl<;>rfl
def rVal (w:World)(A:Option Addr)(n:Nat)(l:List Val):Prop:=Fl w 3 A n (flat yat l)
theorem rVal.len {w:World}{A:Option Addr}{n:Nat}{l:List Val}(h:rVal w A n l):l.length=n:=h.count za4 qF
theorem rVal.opn {w:World}{A:Option Addr}{n:Nat}{l:List Val}(h:rVal w A n l)(hn:0<n): ∃ b off,A=some ⟨b,off,none⟩/\ ∀ (j:Nat) (x:Val),l[j]?=some x->w.cell? ⟨b,off+j*3,none⟩=some (.int .i64 x.k)/\w.cell? ⟨b,off+j*3+1,none⟩=some (.int .i64 x.m)/\w.cell? ⟨b,off+j*3+2,none⟩=some (.string x.s):=by
 obtain ⟨b,off,e,hc⟩:=h.cells za4 hn
 refine ⟨b,off,e,fun j x hx=>?_⟩
 have hc:=fun k u hk hu=>hc j x k u hx hk hu
 exact ⟨hc 0 _ qF rfl,hc 1 _ qF rfl,hc 2 _ qF rfl⟩
theorem rVal.later {w w':World}{A:Option Addr}{n:Nat}{l:List Val}(h:rVal w A n l)(hb:Below w.heap.size w w'):rVal w' A n l:=Fl.later h hb
theorem zgn {w:World}{base e:Nat}{v:Value}{n:Nat}{l:List Val}(h:w.ownsRow base e 3 v n (flat yat l)): ∃ A c,v= .slice A n c/\rVal w A n l/\(∀ a,A=some a->base<=a.block):=zd9 h
theorem zbl (w:World)(t:TypeId)(k:Int)(m:Int)(s:ByteArray): ∀ j u,(yat ⟨k,m,s⟩)[j]?=some u->(w.alloc (.cells #[.int .i64 k, .int .i64 m, .string s] t)).cell? ((⟨w.heap.size,0,none⟩:Addr).add j)=some u:=by
 intro j u h
 have hj:j<3:=by have:=(qO h).1;simpa [yat] using this
 rw [zaw]
 match j,hj with
 |0,_=>simp [yat] at h;subst h;simp
 |1,_=>simp [yat] at h;subst h;simp
 |2,_=>simp [yat] at h;subst h;simp
structure Ent where
 rA:Option Addr
 rN:Nat
 rC:Nat
 c:Int
def ya4 (x:Ent):List Value:= [.slice x.rA x.rN x.rC, .int .i64 x.c]
theorem za5 (x:Ent):(ya4 x).length=2:=rfl
theorem zfn (x:Ent): ∀ u∈ya4 x,u.oneCell'=true:=fun u hx=>by
 simp [ya4] at hx
 rcases hx with rfl|rfl<;>rfl
def rEnt (w:World)(A:Option Addr)(n:Nat)(l:List Ent):Prop:=Fl w 2 A n (flat ya4 l)
theorem rEnt.len {w:World}{A:Option Addr}{n:Nat}{l:List Ent}(h:rEnt w A n l):l.length=n:=h.count za5 qF
theorem rEnt.opn {w:World}{A:Option Addr}{n:Nat}{l:List Ent}(h:rEnt w A n l)(hn:0<n): ∃ b off,A=some ⟨b,off,none⟩/\ ∀ (j:Nat) (x:Ent),l[j]?=some x->w.cell? ⟨b,off+j*2,none⟩=some (.slice x.rA x.rN x.rC)/\w.cell? ⟨b,off+j*2+1,none⟩=some (.int .i64 x.c):=by
 obtain ⟨b,off,e,hc⟩:=h.cells za5 hn
 refine ⟨b,off,e,fun j x hx=>?_⟩
 have hc:=fun k u hk hu=>hc j x k u hx hk hu
 exact ⟨hc 0 _ qF rfl,hc 1 _ qF rfl⟩
theorem rEnt.later {w w':World}{A:Option Addr}{n:Nat}{l:List Ent}(h:rEnt w A n l)(hb:Below w.heap.size w w'):rEnt w' A n l:=Fl.later h hb
theorem rEnt.nil (w:World)(A:Option Addr):rEnt w A 0 []:=Fl.nil w _ A
theorem zan (w:World)(t:TypeId)(rA:Option Addr)(rN:Nat)(rC:Nat)(c:Int): ∀ j u,(ya4 ⟨rA,rN,rC,c⟩)[j]?=some u->(w.alloc (.cells #[.slice rA rN rC, .int .i64 c] t)).cell? ((⟨w.heap.size,0,none⟩:Addr).add j)=some u:=by
 intro j u h
 have hj:j<2:=by have:=(qO h).1;simpa [ya4] using this
 rw [zaw]
 match j,hj with
 |0,_=>simp [ya4] at h;subst h;simp
 |1,_=>simp [ya4] at h;subst h;simp
structure Col where
 nm:ByteArray
 k:Int
 nl:Bool
def yam (x:Col):List Value:= [.string x.nm, .int .i64 x.k, .bool x.nl]
theorem zdn (x:Col):(yam x).length=3:=rfl
def rCol (w:World)(A:Option Addr)(n:Nat)(l:List Col):Prop:=Fl w 3 A n (flat yam l)
theorem rCol.len {w:World}{A:Option Addr}{n:Nat}{l:List Col}(h:rCol w A n l):l.length=n:=h.count zdn qF
theorem rCol.opn {w:World}{A:Option Addr}{n:Nat}{l:List Col}(h:rCol w A n l)(hn:0<n): ∃ b off,A=some ⟨b,off,none⟩/\ ∀ (j:Nat) (x:Col),l[j]?=some x->w.cell? ⟨b,off+j*3,none⟩=some (.string x.nm)/\w.cell? ⟨b,off+j*3+1,none⟩=some (.int .i64 x.k)/\w.cell? ⟨b,off+j*3+2,none⟩=some (.bool x.nl):=by
 obtain ⟨b,off,e,hc⟩:=h.cells zdn hn
 refine ⟨b,off,e,fun j x hx=>?_⟩
 have hc:=fun k u hk hu=>hc j x k u hx hk hu
 exact ⟨hc 0 _ qF rfl,hc 1 _ qF rfl,hc 2 _ qF rfl⟩
theorem rCol.later {w w':World}{A:Option Addr}{n:Nat}{l:List Col}(h:rCol w A n l)(hb:Below w.heap.size w w'):rCol w' A n l:=Fl.later h hb
structure Rel where
 nm:ByteArray
 coA:Option Addr
 coN:Nat
 coC:Nat
 keA:Option Addr
 keN:Nat
 keC:Nat
 roA:Option Addr
 roN:Nat
 roC:Nat
def yl7 (x:Rel):List Value:= [.string x.nm, .slice x.coA x.coN x.coC, .slice x.keA x.keN x.keC, .slice x.roA x.roN x.roC]
structure Itm where
 nm:ByteArray
 f:Int
 co:ByteArray
 num:Int
 exA:Option Addr
 exN:Nat
 exC:Nat
def yc3 (x:Itm):List Value:= [.string x.nm, .int .i64 x.f, .string x.co, .int .i64 x.num, .slice x.exA x.exN x.exC]
theorem zg8 (x:Itm):(yc3 x).length=5:=rfl
def rItm (w:World)(A:Option Addr)(n:Nat)(l:List Itm):Prop:=Fl w 5 A n (flat yc3 l)
theorem rItm.len {w:World}{A:Option Addr}{n:Nat}{l:List Itm}(h:rItm w A n l):l.length=n:=h.count zg8 qF
theorem rItm.opn {w:World}{A:Option Addr}{n:Nat}{l:List Itm}(h:rItm w A n l)(hn:0<n): ∃ b off,A=some ⟨b,off,none⟩/\ ∀ (j:Nat) (x:Itm),l[j]?=some x->w.cell? ⟨b,off+j*5,none⟩=some (.string x.nm)/\w.cell? ⟨b,off+j*5+1,none⟩=some (.int .i64 x.f)/\w.cell? ⟨b,off+j*5+2,none⟩=some (.string x.co)/\w.cell? ⟨b,off+j*5+3,none⟩=some (.int .i64 x.num)/\w.cell? ⟨b,off+j*5+4,none⟩=some (.slice x.exA x.exN x.exC):=by
 obtain ⟨b,off,e,hc⟩:=h.cells zg8 hn
 refine ⟨b,off,e,fun j x hx=>?_⟩
 have hc:=fun k u hk hu=>hc j x k u hx hk hu
 exact ⟨hc 0 _ qF rfl,hc 1 _ qF rfl,hc 2 _ qF rfl,hc 3 _ qF rfl,hc 4 _ qF rfl⟩
structure Stp where
 op:Int
 so:ByteArray
 naA:Option Addr
 naN:Nat
 naC:Nat
 otA:Option Addr
 otN:Nat
 otC:Nat
 itA:Option Addr
 itN:Nat
 itC:Nat
 coA:Option Addr
 coN:Nat
 coC:Nat
def yl8 (x:Stp):List Value:= [.int .i64 x.op, .string x.so, .slice x.naA x.naN x.naC, .slice x.otA x.otN x.otC, .slice x.itA x.itN x.itC, .slice x.coA x.coN x.coC]
theorem zha (x:Stp):(yl8 x).length=6:=rfl
def rStp (w:World)(A:Option Addr)(n:Nat)(l:List Stp):Prop:=Fl w 6 A n (flat yl8 l)
theorem rStp.len {w:World}{A:Option Addr}{n:Nat}{l:List Stp}(h:rStp w A n l):l.length=n:=h.count zha qF
theorem rStp.opn {w:World}{A:Option Addr}{n:Nat}{l:List Stp}(h:rStp w A n l)(hn:0<n): ∃ b off,A=some ⟨b,off,none⟩/\ ∀ (j:Nat) (x:Stp),l[j]?=some x->w.cell? ⟨b,off+j*6,none⟩=some (.int .i64 x.op)/\w.cell? ⟨b,off+j*6+1,none⟩=some (.string x.so)/\w.cell? ⟨b,off+j*6+2,none⟩=some (.slice x.naA x.naN x.naC)/\w.cell? ⟨b,off+j*6+3,none⟩=some (.slice x.otA x.otN x.otC)/\w.cell? ⟨b,off+j*6+4,none⟩=some (.slice x.itA x.itN x.itC)/\w.cell? ⟨b,off+j*6+5,none⟩=some (.slice x.coA x.coN x.coC):=by
 obtain ⟨b,off,e,hc⟩:=h.cells zha hn
 refine ⟨b,off,e,fun j x hx=>?_⟩
 have hc:=fun k u hk hu=>hc j x k u hx hk hu
 exact ⟨hc 0 _ qF rfl,hc 1 _ qF rfl,hc 2 _ qF rfl,hc 3 _ qF rfl,hc 4 _ qF rfl,hc 5 _ qF rfl⟩
structure Nod where
 op:Int
 vk:Int
 vm:Int
 vs:ByteArray
 nm:ByteArray
 ar:Int
def yaz (x:Nod):List Value:= [.int .i64 x.op, .int .i64 x.vk, .int .i64 x.vm, .string x.vs, .string x.nm, .int .i64 x.ar]
theorem zey (x:Nod):(yaz x).length=6:=rfl
theorem ykg (x:Nod): ∀ u∈yaz x,u.oneCell'=true:=fun u hx=>by
 simp [yaz] at hx
 rcases hx with rfl|rfl|rfl|rfl|rfl|rfl<;>rfl
def rNod (w:World)(A:Option Addr)(n:Nat)(l:List Nod):Prop:=Fl w 6 A n (flat yaz l)
theorem rNod.len {w:World}{A:Option Addr}{n:Nat}{l:List Nod}(h:rNod w A n l):l.length=n:=h.count zey qF
theorem rNod.opn {w:World}{A:Option Addr}{n:Nat}{l:List Nod}(h:rNod w A n l)(hn:0<n): ∃ b off,A=some ⟨b,off,none⟩/\ ∀ (j:Nat) (x:Nod),l[j]?=some x->w.cell? ⟨b,off+j*6,none⟩=some (.int .i64 x.op)/\w.cell? ⟨b,off+j*6+1,none⟩=some (.int .i64 x.vk)/\w.cell? ⟨b,off+j*6+2,none⟩=some (.int .i64 x.vm)/\w.cell? ⟨b,off+j*6+3,none⟩=some (.string x.vs)/\w.cell? ⟨b,off+j*6+4,none⟩=some (.string x.nm)/\w.cell? ⟨b,off+j*6+5,none⟩=some (.int .i64 x.ar):=by
 obtain ⟨b,off,e,hc⟩:=h.cells zey hn
 refine ⟨b,off,e,fun j x hx=>?_⟩
 have hc:=fun k u hk hu=>hc j x k u hx hk hu
 exact ⟨hc 0 _ qF rfl,hc 1 _ qF rfl,hc 2 _ qF rfl,hc 3 _ qF rfl,hc 4 _ qF rfl,hc 5 _ qF rfl⟩
theorem rNod.later {w w':World}{A:Option Addr}{n:Nat}{l:List Nod}(h:rNod w A n l)(hb:Below w.heap.size w w'):rNod w' A n l:=Fl.later h hb
theorem zem (w:World)(t:TypeId)(op:Int)(vk:Int)(vm:Int)(vs:ByteArray)(nm:ByteArray)(ar:Int): ∀ j u,(yaz ⟨op,vk,vm,vs,nm,ar⟩)[j]?=some u->(w.alloc (.cells #[.int .i64 op, .int .i64 vk, .int .i64 vm, .string vs, .string nm, .int .i64 ar] t)).cell? ((⟨w.heap.size,0,none⟩:Addr).add j)=some u:=by
 intro j u h
 have hj:j<6:=by have:=(qO h).1;simpa [yaz] using this
 rw [zaw]
 match j,hj with
 |0,_=>simp [yaz] at h;subst h;simp
 |1,_=>simp [yaz] at h;subst h;simp
 |2,_=>simp [yaz] at h;subst h;simp
 |3,_=>simp [yaz] at h;subst h;simp
 |4,_=>simp [yaz] at h;subst h;simp
 |5,_=>simp [yaz] at h;subst h;simp
structure Zon where
 nm:ByteArray
 off:Int
 shA:Option Addr
 shN:Nat
 shC:Nat
def yl9 (x:Zon):List Value:= [.string x.nm, .int .i64 x.off, .slice x.shA x.shN x.shC]
theorem zhb (x:Zon):(yl9 x).length=3:=rfl
def rZon (w:World)(A:Option Addr)(n:Nat)(l:List Zon):Prop:=Fl w 3 A n (flat yl9 l)
theorem rZon.len {w:World}{A:Option Addr}{n:Nat}{l:List Zon}(h:rZon w A n l):l.length=n:=h.count zhb qF
theorem rZon.opn {w:World}{A:Option Addr}{n:Nat}{l:List Zon}(h:rZon w A n l)(hn:0<n): ∃ b off,A=some ⟨b,off,none⟩/\ ∀ (j:Nat) (x:Zon),l[j]?=some x->w.cell? ⟨b,off+j*3,none⟩=some (.string x.nm)/\w.cell? ⟨b,off+j*3+1,none⟩=some (.int .i64 x.off)/\w.cell? ⟨b,off+j*3+2,none⟩=some (.slice x.shA x.shN x.shC):=by
 obtain ⟨b,off,e,hc⟩:=h.cells zhb hn
 refine ⟨b,off,e,fun j x hx=>?_⟩
 have hc:=fun k u hk hu=>hc j x k u hx hk hu
 exact ⟨hc 0 _ qF rfl,hc 1 _ qF rfl,hc 2 _ qF rfl⟩
theorem rZon.later {w w':World}{A:Option Addr}{n:Nat}{l:List Zon}(h:rZon w A n l)(hb:Below w.heap.size w w'):rZon w' A n l:=Fl.later h hb
structure Shf where
 pos:Int
 off:Int
def yeg (x:Shf):List Value:= [.int .i64 x.pos, .int .i64 x.off]
theorem zg9 (x:Shf):(yeg x).length=2:=rfl
def rShf (w:World)(A:Option Addr)(n:Nat)(l:List Shf):Prop:=Fl w 2 A n (flat yeg l)
theorem rShf.len {w:World}{A:Option Addr}{n:Nat}{l:List Shf}(h:rShf w A n l):l.length=n:=h.count zg9 qF
theorem rShf.opn {w:World}{A:Option Addr}{n:Nat}{l:List Shf}(h:rShf w A n l)(hn:0<n): ∃ b off,A=some ⟨b,off,none⟩/\ ∀ (j:Nat) (x:Shf),l[j]?=some x->w.cell? ⟨b,off+j*2,none⟩=some (.int .i64 x.pos)/\w.cell? ⟨b,off+j*2+1,none⟩=some (.int .i64 x.off):=by
 obtain ⟨b,off,e,hc⟩:=h.cells zg9 hn
 refine ⟨b,off,e,fun j x hx=>?_⟩
 have hc:=fun k u hk hu=>hc j x k u hx hk hu
 exact ⟨hc 0 _ qF rfl,hc 1 _ qF rfl⟩
theorem rShf.later {w w':World}{A:Option Addr}{n:Nat}{l:List Shf}(h:rShf w A n l)(hb:Below w.heap.size w w'):rShf w' A n l:=Fl.later h hb
theorem rShf.nil (w:World)(A:Option Addr):rShf w A 0 []:=Fl.nil w _ A
structure Knd where
 k:Int
 nl:Bool
def yas (x:Knd):List Value:= [.int .i64 x.k, .bool x.nl]
theorem zcu (x:Knd):(yas x).length=2:=rfl
theorem ykf (x:Knd): ∀ u∈yas x,u.oneCell'=true:=fun u hx=>by
 simp [yas] at hx
 rcases hx with rfl|rfl<;>rfl
def rKnd (w:World)(A:Option Addr)(n:Nat)(l:List Knd):Prop:=Fl w 2 A n (flat yas l)
theorem rKnd.len {w:World}{A:Option Addr}{n:Nat}{l:List Knd}(h:rKnd w A n l):l.length=n:=h.count zcu qF
theorem rKnd.opn {w:World}{A:Option Addr}{n:Nat}{l:List Knd}(h:rKnd w A n l)(hn:0<n): ∃ b off,A=some ⟨b,off,none⟩/\ ∀ (j:Nat) (x:Knd),l[j]?=some x->w.cell? ⟨b,off+j*2,none⟩=some (.int .i64 x.k)/\w.cell? ⟨b,off+j*2+1,none⟩=some (.bool x.nl):=by
 obtain ⟨b,off,e,hc⟩:=h.cells zcu hn
 refine ⟨b,off,e,fun j x hx=>?_⟩
 have hc:=fun k u hk hu=>hc j x k u hx hk hu
 exact ⟨hc 0 _ qF rfl,hc 1 _ qF rfl⟩
theorem rKnd.later {w w':World}{A:Option Addr}{n:Nat}{l:List Knd}(h:rKnd w A n l)(hb:Below w.heap.size w w'):rKnd w' A n l:=Fl.later h hb
theorem rKnd.nil (w:World)(A:Option Addr):rKnd w A 0 []:=Fl.nil w _ A
structure Prt where
 keA:Option Addr
 keN:Nat
 keC:Nat
 roA:Option Addr
 roN:Nat
 roC:Nat
theorem zhn (x y:UInt8):x<y∨x=y∨y<x:=by
 by_cases h:x=y
 ·exact .inr (.inl h)
 ·rcases UInt8.lt_or_lt_of_ne h with h1|h1
  ·exact .inl h1
  ·exact .inr (.inr h1)
theorem zh0 (a b:Int):Lib.compareInt a b=0↔a=b:=by unfold Lib.compareInt;split;simp;omega;split<;>simp<;>omega
theorem yl4 (a b:Int):Lib.compareInt a b<0↔a<b:=by unfold Lib.compareInt;split;simpa;split<;>simp<;>omega
theorem zhx : ∀ a b:List UInt8,Lib.compareBytes a b= - Lib.compareBytes b a
 | [],[]=>rfl
 | [],_::_=>rfl
 |_::_,[]=>rfl
 |x::a,y::b=>by
  unfold Lib.compareBytes
  rcases zhn x y with h|h|h
  ·have h2: ¬ y<x:=UInt8.lt_asymm h
   simp [h,h2]
  ·subst h
   simp [UInt8.lt_irrefl]
   exact zhx a b
  ·have h2: ¬ x<y:=UInt8.lt_asymm h
   simp [h,h2]
theorem zew : ∀ a b:List UInt8,Lib.compareBytes a b=0↔a=b
 | [],[]=>by simp [Lib.compareBytes]
 | [],_::_=>by simp [Lib.compareBytes]
 |_::_,[]=>by simp [Lib.compareBytes]
 |x::a,y::b=>by
  unfold Lib.compareBytes
  rcases zhn x y with h|h|h
  ·have h2: ¬ x=y:=fun e=>by subst e;exact UInt8.lt_irrefl _ h
   simp [h,h2]
  ·subst h
   simp [UInt8.lt_irrefl]
   exact zew a b
  ·have h2: ¬ x=y:=fun e=>by subst e;exact UInt8.lt_irrefl _ h
   have h3: ¬ x<y:=UInt8.lt_asymm h
   simp [h,h2,h3]
theorem zlw : ∀ a b c:List UInt8,Lib.compareBytes a b<0->Lib.compareBytes b c<0->Lib.compareBytes a c<0
 | [],[],_,h,_=>by simp [Lib.compareBytes] at h
 |_::_,[],_,h,_=>by simp [Lib.compareBytes] at h
 |_,_::_,[],_,h=>by simp [Lib.compareBytes] at h
 | [],_::_,_::_,_,_=>by simp [Lib.compareBytes]
 |x::a,y::b,z::c,h1,h2=>by
  unfold Lib.compareBytes at h1 h2 ⊢
  rcases zhn x y with h|h|h
  ·rcases zhn y z with k|k|k
   ·have:=UInt8.lt_trans h k
    simp [this]
   ·subst k;simp [h]
   ·have k2: ¬ y<z:=UInt8.lt_asymm k
    simp [k,k2] at h2
  ·subst h
   simp [UInt8.lt_irrefl] at h1
   rcases zhn x z with k|k|k
   ·simp [k]
   ·subst k
    simp [UInt8.lt_irrefl] at h2 ⊢
    exact zlw a b c h1 h2
   ·have k2: ¬ x<z:=UInt8.lt_asymm k
    simp [k,k2] at h2
  ·have h3: ¬ x<y:=UInt8.lt_asymm h
   simp [h,h3] at h1
def ya0 (a b:Val):Int:=
 if Lib.compareInt a.k b.k=0 then (if Lib.compareInt a.m b.m=0 then Lib.compareBytes a.s.toList b.s.toList else Lib.compareInt a.m b.m) else Lib.compareInt a.k b.k
def ltV (a b:Val):Prop:=a.k<b.k∨a.k=b.k/\(a.m<b.m∨a.m=b.m/\Lib.compareBytes a.s.toList b.s.toList<0)
theorem zqo {a b:Val}(h1:a.k=b.k)(h2:a.m=b.m)(h3:a.s=b.s):a=b:=by cases a;cases b;simp at h1 h2 h3;simp [h1,h2,h3]
theorem zh1 (a b:Val):ya0 a b<0↔ltV a b:=by
 have c1:=zh0 a.k b.k
 have c2:=zh0 a.m b.m
 have c3:=yl4 a.k b.k
 have c4:=yl4 a.m b.m
 unfold ya0 ltV
 split
 ·split
  ·constructor
   ·intro h;exact .inr ⟨c1.1 ‹_›, .inr ⟨c2.1 ‹_›,h⟩⟩
   ·rintro (h|⟨_,h|⟨_,h⟩⟩)
    ·have:=c1.1 ‹_›;omega
    ·have:=c2.1 ‹_›;omega
    ·exact h
  ·constructor
   ·intro h;exact .inr ⟨c1.1 ‹_›, .inl (c4.1 h)⟩
   ·rintro (h|⟨_,h|⟨h,_⟩⟩)
    ·have:=c1.1 ‹_›;omega
    ·exact c4.2 h
    ·exact absurd (c2.2 h) ‹_›
 ·constructor
  ·intro h;exact .inl (c3.1 h)
  ·rintro (h|⟨h,_⟩)
   ·exact c3.2 h
   ·exact absurd (c1.2 h) ‹_›
theorem zct (a b:Val):ya0 a b=0↔a=b:=by
 have c1:=zh0 a.k b.k
 have c2:=zh0 a.m b.m
 have c3:=zew a.s.toList b.s.toList
 unfold ya0
 constructor
 ·intro h
  split at h
  ·split at h
   ·exact zqo (c1.1 ‹_›) (c2.1 ‹_›) (toList_inj (c3.1 h))
   ·exact absurd h ‹_›
  ·exact absurd h ‹_›
 ·rintro rfl
  rw [if_pos (c1.2 rfl),if_pos (c2.2 rfl)]
  exact c3.2 rfl
theorem zob (a b:Int):Lib.compareInt a b= - Lib.compareInt b a:=by
 unfold Lib.compareInt
 rcases Int.lt_trichotomy a b with h|h|h
 ·have: ¬ b<a:=by omega
  simp [h,this]
 ·subst h;simp
 ·have: ¬ a<b:=by omega
  simp [h,this]
theorem zoc (a b:Val):ya0 a b= - ya0 b a:=by
 have f1:=zob a.k b.k
 have f2:=zob a.m b.m
 have f3:=zhx a.s.toList b.s.toList
 unfold ya0
 by_cases h1:Lib.compareInt b.k a.k=0
 ·by_cases h2:Lib.compareInt b.m a.m=0
  ·rw [if_pos qF,if_pos qF,if_pos h1,if_pos h2];exact f3
  ·rw [if_pos qF,if_neg qF,if_pos h1,if_neg h2];exact f2
 ·rw [if_neg qF,if_neg h1];exact f1
theorem zpd {a b c:Val}(h1:ltV a b)(h2:ltV b c):ltV a c:=by
 unfold ltV at*
 rcases h1 with h1|⟨e1,h1⟩
 ·rcases h2 with h2|⟨e2,h2⟩<;>(left;omega)
 ·rcases h2 with h2|⟨e2,h2⟩
  ·left;omega
  ·right
   refine ⟨by omega,?_⟩
   rcases h1 with h1|⟨e3,h1⟩
   ·rcases h2 with h2|⟨e4,h2⟩<;>(left;omega)
   ·rcases h2 with h2|⟨e4,h2⟩
    ·left;omega
    ·right;exact ⟨by omega,zlw _ _ _ h1 h2⟩
def yag :List Val->List Val->Int
 | [],[]=>0
 | [],_::_=> -1
 |_::_,[]=>1
 |x::a,y::b=>if ya0 x y=0 then yag a b else ya0 x y
theorem zar : ∀ a b:List Val,yag a b=0↔a=b
 | [],[]=>by simp [yag]
 | [],_::_=>by simp [yag]
 |_::_,[]=>by simp [yag]
 |x::a,y::b=>by
  have h:=zct x y
  have ih:=zar a b
  unfold yag
  constructor
  ·intro e
   split at e
   ·rw [h.1 ‹_›,ih.1 e]
   ·exact absurd e ‹_›
  ·intro e
   simp at e
   rw [if_pos (h.2 e.1)]
   exact ih.2 e.2
theorem zf0 (a:List Val):yag a a=0:=(zar a a).2 rfl
theorem zbs : ∀ a b:List Val,yag a b= - yag b a
 | [],[]=>rfl
 | [],_::_=>rfl
 |_::_,[]=>rfl
 |x::a,y::b=>by
  have h:=zoc x y
  have ih:=zbs a b
  unfold yag
  by_cases e:ya0 y x=0
  ·rw [if_pos qF,if_pos e];exact ih
  ·rw [if_neg qF,if_neg e];exact h
theorem zbi : ∀ a b c:List Val,yag a b<0->yag b c<0->yag a c<0
 | [],[],_,h,_=>by simp [yag] at h
 |_::_,[],_,h,_=>by simp [yag] at h
 |_,_::_,[],_,h=>by simp [yag] at h
 | [],_::_,_::_,_,_=>by simp [yag]
 |x::a,y::b,z::c,h1,h2=>by
  unfold yag at h1 h2 ⊢
  by_cases e1:ya0 x y=0
  ·have e:=(zct _ _).1 e1
   subst e
   rw [if_pos e1] at h1
   by_cases e2:ya0 x z=0
   ·rw [if_pos e2] at h2 ⊢
    exact zbi a b c h1 h2
   ·rw [if_neg e2] at h2 ⊢
    exact h2
  ·rw [if_neg e1] at h1
   by_cases e2:ya0 y z=0
   ·have e:=(zct _ _).1 e2
    subst e
    rw [if_neg e1]
    exact h1
   ·rw [if_neg e2] at h2
    have h3:=(zh1 _ _).2 (zpd ((zh1 _ _).1 h1) ((zh1 _ _).1 h2))
    rw [if_neg qF]
    exact h3
def Asc :List (List Val × Int)->Prop
 | []=>True
 |x::l=>(∀ y∈l,yag x.1 y.1<0)/\Asc l
def cnt :List (List Val × Int)->List Val->Int
 | [],_=>0
 |x::l,r=>(if yag x.1 r=0 then x.2 else 0)+cnt l r
theorem zcc (a b:List (List Val × Int))(r:List Val):cnt (a++b) r=cnt a r+cnt b r:=by
 induction a with
 |nil=>simp [cnt]
 |cons x a ih=>rw [List.cons_append,cnt,cnt,ih];omega
theorem yjf {a b:List (List Val × Int)}(h:a.Perm b)(r:List Val):cnt a r=cnt b r:=by
 induction h with
 |nil=>rfl
 |cons x _ ih=>rw [cnt,cnt,ih]
 |swap x y l=>simp only [cnt];omega
 |trans _ _ h1 h2=>rw [h1,h2]
theorem zoe {l:List (List Val × Int)}{r:List Val}(h: ∀ y∈l,yag r y.1<0):cnt l r=0:=by
 induction l with
 |nil=>rfl
 |cons x l ih=>
  have h1:=h x (List.mem_cons_self ..)
  have h2:=zbs x.1 r
  rw [cnt,if_neg qF,ih (fun y hy=>h y (qW _ hy))]
  rfl
def Bag (l:List (List Val × Int)):Prop:=Asc l/\ ∀ x∈l,x.2≠0
theorem Bag.tail {x:List Val × Int}{l:List (List Val × Int)}(h:Bag (x::l)):Bag l:=⟨h.1.2,fun y hy=>h.2 y (qW _ hy)⟩
theorem Bag.cnt_head {x:List Val × Int}{l:List (List Val × Int)}(h:Bag (x::l)):cnt (x::l) x.1=x.2:=by
 rw [cnt,if_pos (zf0 _),zoe h.1.1];omega
theorem Bag.ext : ∀ {a b:List (List Val × Int)},Bag a->Bag b->(∀ r,cnt a r=cnt b r)->a=b
 | [],[],_,_,_=>rfl
 | [],y::b,_,hb,h=>by
  have:=h y.1
  rw [hb.cnt_head] at this
  exact absurd this.symm (hb.2 y (List.mem_cons_self ..))
 |x::a,[],ha,_,h=>by
  have:=h x.1
  rw [ha.cnt_head] at this
  exact absurd this (ha.2 x (List.mem_cons_self ..))
 |x::a,y::b,ha,hb,h=>by
  have hx:=h x.1
  have hy:=h y.1
  rw [ha.cnt_head] at hx
  rw [hb.cnt_head] at hy
  have hf:=zbs x.1 y.1
  rcases Int.lt_trichotomy (yag x.1 y.1) 0 with c|c|c
  ·rw [zoe (l:=y::b) (r:=x.1) (fun z hz=>by
    rcases qY hz with e|hz
    ·subst e;exact c
    ·exact zbi _ _ _ c (hb.1.1 z hz))] at hx
   exact absurd hx (ha.2 x (List.mem_cons_self ..))
  ·have e:=(zar _ _).1 c
   rw [<-e,ha.cnt_head] at hy
   have e2:x=y:=by cases x;cases y;simp at e hy;simp [e,hy]
   subst e2
   rw [Bag.ext ha.tail hb.tail (fun r=>by have:=h r;simp only [cnt] at this;omega)]
  ·rw [zoe (l:=x::a) (r:=y.1) (fun z hz=>by
    rcases qY hz with e|hz
    ·subst e;omega
    ·exact zbi _ _ _ qF (ha.1.1 z hz))] at hy
   exact absurd hy.symm (hb.2 y (List.mem_cons_self ..))
abbrev Tab :=List (List Val × Int)
def ye2 (r:List Val)(n:Int):Tab->Tab
 | []=>if n=0 then [] else [(r,n)]
 |x::l=>if yag r x.1<0 then (if n=0 then x::l else (r,n)::x::l)
  else if yag r x.1=0 then (if x.2+n=0 then l else (x.1,x.2+n)::l) else x::ye2 r n l
theorem zmb {r:List Val}{n:Int}{l:Tab}{y:List Val × Int}(h:y∈ye2 r n l):y.1=r∨ ∃ z∈l,z.1=y.1:=by
 induction l with
 |nil=>
  unfold ye2 at h
  split at h
  ·cases h
  ·simp at h;subst h;exact .inl rfl
 |cons x l ih=>
  unfold ye2 at h
  split at h
  ·split at h
   ·exact .inr ⟨y,h,rfl⟩
   ·rcases qY h with rfl|h
    ·exact .inl rfl
    ·exact .inr ⟨y,h,rfl⟩
  ·split at h
   ·split at h
    ·exact .inr ⟨y,qW _ h,rfl⟩
    ·rcases qY h with rfl|h
     ·exact .inr ⟨x,List.mem_cons_self ..,rfl⟩
     ·exact .inr ⟨y,qW _ h,rfl⟩
   ·rcases qY h with rfl|h
    ·exact .inr ⟨_,List.mem_cons_self ..,rfl⟩
    ·rcases ih h with h|⟨z,hz,h⟩
     ·exact .inl h
     ·exact .inr ⟨z,qW _ hz,h⟩
theorem Bag.cons {x:List Val × Int}{l:Tab}(h:Bag l)(h1: ∀ y∈l,yag x.1 y.1<0)(h2:x.2≠0):Bag (x::l):=
 ⟨⟨h1,h.1⟩,fun y hy=>by
  rcases qY hy with rfl|hy
  ·exact h2
  ·exact h.2 y hy⟩
theorem yju {r:List Val}{n:Int}{l:Tab}(h:Bag l):Bag (ye2 r n l):=by
 induction l with
 |nil=>
  unfold ye2
  split
  ·exact h
  ·exact Bag.cons h (fun y hy=>by cases hy) ‹_›
 |cons x l ih=>
  unfold ye2
  split
  ·split
   ·exact h
   ·refine Bag.cons h (fun y hy=>?_) ‹_›
    rcases qY hy with rfl|hy
    ·assumption
    ·exact zbi _ _ _ ‹_› (h.1.1 y hy)
  ·split
   ·split
    ·exact h.tail
    ·exact Bag.cons h.tail h.1.1 ‹_›
   ·refine Bag.cons (ih h.tail) (fun y hy=>?_) (h.2 x (List.mem_cons_self ..))
    have hf:=zbs x.1 r
    rcases zmb hy with e|⟨z,hz,e⟩
    ·rw [e];omega
    ·rw [<-e];exact h.1.1 z hz
theorem yjv (r:List Val)(n:Int)(l:Tab)(s:List Val):cnt (ye2 r n l) s=(if yag r s=0 then n else 0)+cnt l s:=by
 induction l with
 |nil=>
  unfold ye2
  split
  ·rename_i h;subst h;simp [cnt]
  ·simp [cnt]
 |cons x l ih=>
  unfold ye2
  split
  ·split
   ·rename_i h;subst h;simp
   ·rfl
  ·split
   ·rename_i h
    have e:=(zar _ _).1 h
    subst e
    split
    ·rename_i h2
     rw [cnt]
     split<;>omega
    ·rw [cnt,cnt]
     split<;>omega
   ·rw [cnt,ih,cnt];omega
def ybp (l:Tab):Tab:=l.foldr (fun x t=>ye2 x.1 x.2 t) []
theorem zdq (x:List Val × Int)(l:Tab):ybp (x::l)=ye2 x.1 x.2 (ybp l):=rfl
theorem zde (l:Tab):Bag (ybp l):=by
 induction l with
 |nil=>exact ⟨trivial,fun y hy=>by cases hy⟩
 |cons x l ih=>exact yju ih
theorem zdf (l:Tab)(r:List Val):cnt (ybp l) r=cnt l r:=by
 induction l with
 |nil=>rfl
 |cons x l ih=>rw [zdq,yjv,ih,cnt]
theorem zi9 {l:Tab}: ∀ {y:List Val × Int} (_:y∈ybp l),∃ z∈l,z.1=y.1:=by
 induction l with
 |nil=>intro y h;cases h
 |cons x l ih=>
  intro y h
  rw [zdq] at h
  rcases zmb h with e|⟨z,hz,e⟩
  ·exact ⟨x,List.mem_cons_self ..,e.symm⟩
  ·obtain ⟨u,hu,e2⟩:=ih hz
   exact ⟨u,qW _ hu,e2.trans e⟩
theorem zh9 {a l:Tab}(h:Bag a)(h2: ∀ r,cnt a r=cnt l r):a=ybp l:=Bag.ext h (zde l) fun r=>by rw [h2,zdf]
theorem yjw (r:List Val)(n:Int)(l:Tab):(ye2 r n l).length<=l.length+1:=by
 induction l with
 |nil=>unfold ye2;split<;>simp
 |cons x l ih=>
  unfold ye2
  split
  ·split<;>simp
  ·split
   ·split<;>simp<;>omega
   ·simp;omega
theorem zpk (l:Tab):(ybp l).length<=l.length:=by
 induction l with
 |nil=>simp [ybp]
 |cons x l ih=>rw [zdq];have:=yjw x.1 x.2 (ybp l);simp;omega
theorem Bag.cnt_mem : ∀ {l:Tab} (_:Bag l) {x:List Val × Int} (_:x∈l),cnt l x.1=x.2
 |y::l,h,x,hx=>by
  rcases qY hx with rfl|hx
  ·exact h.cnt_head
  ·have h1:=h.1.1 x hx
   rw [cnt,if_neg qF,Bag.cnt_mem h.tail hx];omega
def dAll {α β:Type}(R:α->β->Prop):List α->List β->Prop
 | [],[]=>True
 |a::l,b::m=>R a b/\dAll R l m
 |_,_=>False
section
variable {α β:Type}{R S:α->β->Prop}
theorem dAll.one {a:α}{b:β}(h:R a b):dAll R [a] [b]:=⟨h,trivial⟩
theorem dAll.len : ∀ {l:List α} {m:List β} (_:dAll R l m),l.length=m.length
 | [],[],_=>rfl
 |a::l,b::m,h=>by rw [List.length_cons,List.length_cons,dAll.len h.2]
theorem dAll.imp (hi: ∀ a b,R a b->S a b): ∀ {l:List α} {m:List β} (_:dAll R l m),dAll S l m
 | [],[],_=>trivial
 |a::l,b::m,h=>⟨hi _ _ h.1,dAll.imp hi h.2⟩
theorem dAll.get : ∀ {l:List α} {m:List β} (_:dAll R l m) {j:Nat} {a:α} (_:l[j]?=some a),∃ b,m[j]?=some b/\R a b
 | [],_,_,_,_,hx=>by simp at hx
 |a::l,b::m,h,0,x,hx=>by simp at hx;subst hx;exact ⟨b,rfl,h.1⟩
 |a::l,b::m,h,j+1,x,hx=>by
  obtain ⟨y,hy,hr⟩:=dAll.get h.2 (j:=j) (a:=x) (by simpa using hx)
  exact ⟨y,by simpa using hy,hr⟩
theorem dAll.get2 : ∀ {l:List α} {m:List β} (_:dAll R l m) {j:Nat} {b:β} (_:m[j]?=some b),∃ a,l[j]?=some a/\R a b
 |_,[],_,_,_,hx=>by simp at hx
 |a::l,b::m,h,0,x,hx=>by simp at hx;subst hx;exact ⟨a,rfl,h.1⟩
 |a::l,b::m,h,j+1,x,hx=>by
  obtain ⟨y,hy,hr⟩:=dAll.get2 h.2 (j:=j) (b:=x) (by simpa using hx)
  exact ⟨y,by simpa using hy,hr⟩
theorem dAll.append : ∀ {l:List α} {m:List β} {l':List α} {m':List β} (_:dAll R l m) (_:dAll R l' m'),dAll R (l++l') (m++m')
 | [],[],_,_,_,h=>h
 |a::l,b::m,_,_,h,h'=>⟨h.1,dAll.append h.2 h'⟩
 | [],_::_,_,_,h,_=>h.elim
 |_::_,[],_,_,h,_=>h.elim
theorem dAll.snoc {l:List α}{m:List β}{a:α}{b:β}(h:dAll R l m)(h':R a b):dAll R (l++ [a]) (m++ [b]):=h.append (.one h')
theorem dAll.drop : ∀ {l:List α} {m:List β} (_:dAll R l m) (k:Nat),dAll R (l.drop k) (m.drop k)
 | [],[],_,0=>trivial
 |_::_,_::_,h,0=>h
 | [],[],_,k+1=>trivial
 |a::l,b::m,h,k+1=>dAll.drop h.2 k
theorem dAll.take : ∀ {l:List α} {m:List β} (_:dAll R l m) (k:Nat),dAll R (l.take k) (m.take k)
 | [],[],_,0=>trivial
 |_::_,_::_,_,0=>trivial
 | [],[],_,k+1=>trivial
 |a::l,b::m,h,k+1=>⟨h.1,dAll.take h.2 k⟩
theorem dAll.of_get : ∀ {l:List α} {m:List β} (_:l.length=m.length) (_: ∀ (j:Nat) (a:α) (b:β),l[j]?=some a->m[j]?=some b->R a b),dAll R l m
 | [],[],_,_=>trivial
 |a::l,b::m,hl,h=>⟨h 0 a b rfl rfl,dAll.of_get (by simpa using hl) fun j x y hx hy=>h (j+1) x y (by simpa using hx) (by simpa using hy)⟩
end
def dEnt (w:World)(e:Ent)(x:List Val × Int):Prop:=rVal w e.rA e.rN x.1/\e.c=x.2
def rTab (w:World)(A:Option Addr)(n:Nat)(t:Tab):Prop:= ∃ es,rEnt w A n es/\dAll (dEnt w) es t
section
variable {w w':World}{A:Option Addr}{n:Nat}{t:Tab}
theorem dEnt.later {e:Ent}{x:List Val × Int}(h:dEnt w e x)(hb:Below w.heap.size w w'):dEnt w' e x:=⟨h.1.later hb,h.2⟩
theorem dEnts.later {es:List Ent}(h:dAll (dEnt w) es t)(hb:Below w.heap.size w w'):dAll (dEnt w') es t:=h.imp fun _ _ h=>h.later hb
theorem rTab.later (h:rTab w A n t)(hb:Below w.heap.size w w'):rTab w' A n t:=by
 obtain ⟨es,h1,h2⟩:=h
 exact ⟨es,h1.later hb,dEnts.later h2 hb⟩
theorem rTab.len (h:rTab w A n t):t.length=n:=by
 obtain ⟨es,h1,h2⟩:=h
 rw [<-h2.len,h1.len]
theorem rTab.nil (w:World)(A:Option Addr):rTab w A 0 []:=⟨[],rEnt.nil w A,trivial⟩
theorem rTab.opn (h:rTab w A n t)(hn:0<n): ∃ b off,A=some ⟨b,off,none⟩/\ ∀ (j:Nat) (x:List Val × Int),t[j]?=some x-> ∃ (rA:Option Addr) (rN rC:Nat),w.cell? ⟨b,off+j*2,none⟩=some (.slice rA rN rC)/\w.cell? ⟨b,off+j*2+1,none⟩=some (.int .i64 x.2)/\rVal w rA rN x.1:=by
 obtain ⟨es,h1,h2⟩:=h
 obtain ⟨b,off,e,hc⟩:=h1.opn hn
 refine ⟨b,off,e,fun j x hx=>?_⟩
 obtain ⟨a,ha,hr⟩:=h2.get2 hx
 obtain ⟨c1,c2⟩:=hc j a ha
 exact ⟨a.rA,a.rN,a.rC,c1,by rw [c2,hr.2],hr.1⟩
end
theorem za0 (w:World):Below w.heap.size w w:=Below.refl _ w
theorem zae (w:World)(o:Obj):Below w.heap.size w (w.alloc o):=(Below.refl _ w).alloc (qV _) o
theorem btr {a b c:World}(h:Below a.heap.size a b)(k:Below b.heap.size b c):Below a.heap.size a c:=h.trans (k.mono h.size)
structure Gro (w:World) where
 world:World
 below:Below w.heap.size w world
instance (w:World):Inhabited (Gro w):=⟨⟨w,Below.refl _ _⟩⟩
theorem Gro.cell {w:World}{a:Addr}{v:Value}(h:w.cell? a=some v)(p:Gro w):p.world.cell? a=some v:=qM p.below h
theorem zai {P:Program}{id:Nat}{Q:Exit->Act->World->Prop}{a:Act}{w:World}{l:List Oper}(hm:P.follows .mixedOrders=true)(hB:Region.lexB .any l.toArray=true)
 (h:wpQuiet P l.toArray (fun w'=> ∃ p:Gro w,w'=p.world) (fun a'=> ∀ w',(∃ p:Gro w,w'=p.world)->Q .normal a' w') l a):(Code.region id l.toArray true).wp P Q a w:=
 wp_region_quiet (C:=fun w'=> ∃ p:Gro w,w'=p.world) hm hB ⟨⟨w.drew,(Below.refl _ _).drew⟩,rfl⟩ (by simpa using h)
theorem Calls.gro_of {P:Program}{f:FuncId}{args:Array Value}{w:World}{p:Gro w}{v:Value}
 (h:Calls P f args p.world fun e w'=>e= .returned v/\Below p.world.heap.size p.world w'):Calls P f args p.world fun e w''=>e= .returned v/\ ∃ q:Gro w,w''=q.world:=
 h.mono fun _ _ ⟨he,hb⟩=>⟨he,⟨_,btr p.below hb⟩,rfl⟩
def yau (ps:List (Option Addr × Nat))(row:Option Nat):Prop:= ∀ p∈ps,0<p.2-> ∀ ad,p.1=some ad->some ad.block≠row
def Yi0 (ps:List (Option Addr × Nat))(B:Nat):Prop:= ∀ p∈ps,0<p.2-> ∀ ad,p.1=some ad->ad.block<B
structure Kin (α β:Type) where
 enc:α->List Value
 C:Nat
 e:TypeId
 ptrs:α->List (Option Addr × Nat)
 D:World->α->β->Prop
 len: ∀ x,(enc x).length=C
 pos:0<C
 one: ∀ x,∀ u∈enc x,u.oneCell'=true
 later: ∀ {w w' a b},D w a b->Below w.heap.size w w'->D w' a b
 kept: ∀ {w w' row a b},D w a b->World.grownBy w w' row->yau (ptrs a) row->D w' a b
 lt: ∀ {w a b},D w a b->Yi0 (ptrs a) w.heap.size
section
variable {α β:Type}(K:Kin α β)
def rD (w:World)(A:Option Addr)(n:Nat)(l:List β):Prop:= ∃ az,Fl w K.C A n (flat K.enc az)/\dAll (K.D w) az l
def ownD (w:World)(base:Nat)(v:Value)(n:Nat)(l:List β):Prop:=
 ∃ az,w.ownsRow base K.e K.C v n (flat K.enc az)/\dAll (K.D w) az l/\ ∀ a∈az,yau (K.ptrs a) v.ownBlock
variable {K}{w w':World}{A:Option Addr}{n base:Nat}{v:Value}{l:List β}
theorem rD.len (h:rD K w A n l):l.length=n:=by
 obtain ⟨az,h1,h2⟩:=h
 rw [<-h2.len];exact h1.count K.len K.pos
theorem rD.later (h:rD K w A n l)(hb:Below w.heap.size w w'):rD K w' A n l:=by
 obtain ⟨az,h1,h2⟩:=h
 exact ⟨az,h1.later hb,h2.imp fun _ _ h=>K.later h hb⟩
theorem rD.nil (w:World)(A:Option Addr):rD K w A 0 []:=⟨[],Fl.nil w _ A,trivial⟩
theorem rD.opn (h:rD K w A n l)(hn:0<n): ∃ b off,A=some ⟨b,off,none⟩/\ ∀ (j:Nat) (x:β),l[j]?=some x-> ∃ a,K.D w a x/\ ∀ (k:Nat) (u:Value),k<K.C->(K.enc a)[k]?=some u->w.cell? ⟨b,off+j*K.C+k,none⟩=some u:=by
 obtain ⟨az,h1,h2⟩:=h
 obtain ⟨b,off,e,hc⟩:=h1.cells K.len hn
 refine ⟨b,off,e,fun j x hx=>?_⟩
 obtain ⟨a,ha,hr⟩:=h2.get2 hx
 exact ⟨a,hr,fun k u hk hu=>hc j a k u ha hk hu⟩
theorem rD.drop (h:rD K w A n l)(k:Nat)(hk:k<=n){b off:Nat}(hA:A=some ⟨b,off,none⟩):rD K w (some ⟨b,off+k*K.C,none⟩) (n - k) (l.drop k):=by
 obtain ⟨az,h1,h2⟩:=h
 exact ⟨az.drop k,by rw [zi1 K.len];exact h1.drop k hk hA,h2.drop k⟩
theorem zea {α:Type}{enc:α->List Value}{C:Nat}(hC: ∀ x,(enc x).length=C): ∀ (l:List α) (k:Nat),flat enc (l.take k)=(flat enc l).take (k*C)
 |l,0=>by simp [flat]
 | [],k+1=>by simp [flat]
 |x::l,k+1=>by
  have e:(k+1)*C=(enc x).length+k*C:=by rw [hC,Nat.succ_mul];omega
  rw [List.take_succ_cons,zba,zea hC l k,zba,e,List.take_length_add_append]
theorem rD.take (h:rD K w A n l)(k:Nat)(hk:k<=n):rD K w A k (l.take k):=by
 obtain ⟨az,h1,h2⟩:=h
 exact ⟨az.take k,by rw [zea K.len];exact h1.take k hk,h2.take k⟩
theorem rD.cut (h:rD K w A n l)(hn:0<n){c:Nat}(hc:n<=c):rD K w (if c=1 then A else A.map (·.add K.C)) (n - 1) (l.drop 1):=by
 obtain ⟨b,off,e,_⟩:=h.opn hn
 by_cases h1:c=1
 ·rw [if_pos h1]
  have h0:n - 1=0:=by omega
  have:=h.len
  rw [h0,List.drop_eq_nil_of_le qF]
  exact rD.nil _ _
 ·rw [if_neg h1,e,Option.map_some,zaw]
  have:=h.drop 1 hn e
  rwa [Nat.one_mul] at this
theorem ownD.nil (w:World)(base:Nat):ownD K w base (.slice none 0 0) 0 []:=⟨[],World.ownsRow_nil w base _ _,trivial,fun a h=>by cases h⟩
theorem ownD.len (h:ownD K w base v n l):l.length=n:=by
 obtain ⟨az,h1,h2,_⟩:=h
 have:=h1.1
 rw [zau K.len] at this
 rw [<-h2.len]
 exact Nat.eq_of_mul_eq_mul_right K.pos this
theorem ownD.lt (h:ownD K w base v n l): ∀ k,v.ownBlock=some k->base<=k/\k<w.heap.size:=by
 obtain ⟨az,h1,_⟩:=h
 exact h1.lt
theorem ownD.rd (h:ownD K w base v n l): ∃ A c,v= .slice A n c/\n<=c/\rD K w A n l/\ ∀ a,A=some a->base<=a.block/\a.block<w.heap.size:=by
 obtain ⟨az,h1,h2,_⟩:=h
 have hlt:=h1.lt
 have hle: ∀ {A c},v= .slice A n c->n<=c:=by
  intro A c e
  rcases h1.2 with ⟨e1,e2⟩|⟨g,cap,cur,e1,_,_,hnc,_⟩
  ·omega
  ·rw [e1] at e;injection e with _ _ e3;omega
 obtain ⟨A,c,e,hr,hb⟩:=zd9 h1
 exact ⟨A,c,e,hle e,⟨az,hr,h2⟩,fun a ha=>hlt a.block (by rw [e,ha];rfl)⟩
theorem ownD.kept {row:Option Nat}(h:ownD K w base v n l)(hg:w.grownBy w' row)(hne:v.ownBlock=none∨v.ownBlock≠row)(hf: ∀ a∈([]:List α),True)(hp: ∀ az,dAll (K.D w) az l-> ∀ a∈az,yau (K.ptrs a) row):ownD K w' base v n l:=by
 obtain ⟨az,h1,h2,h3⟩:=h
 have hp:=hp az h2
 refine ⟨az,h1.kept hg hne,?_,h3⟩
 exact dAll.of_get h2.len fun j a b ha hb=>by
  obtain ⟨b',hb',hr⟩:=h2.get ha
  rw [hb] at hb'
  cases hb'
  exact K.kept hr hg (hp a (qP ha))
theorem ownD.later (h:ownD K w base v n l)(hb:Below w.heap.size w w'):ownD K w' base v n l:=by
 obtain ⟨az,h1,h2,h3⟩:=h
 refine ⟨az,h1.kept (row:=none) ⟨hb.os,hb.tape,hb.output,hb.size,fun k hk _=>hb.block k hk⟩ ?_,h2.imp fun _ _ h=>K.later h hb,h3⟩
 cases hv:v.ownBlock
 ·exact .inl rfl
 ·exact .inr qH
theorem ownD.mono (h:ownD K w base v n l){base':Nat}(hb:base'<=base):ownD K w base' v n l:=by
 obtain ⟨az,⟨h0,h1⟩,h2,h3⟩:=h
 refine ⟨az,⟨h0,?_⟩,h2,h3⟩
 rcases h1 with h1|⟨g,cap,cur,e,hg,r⟩
 ·exact .inl h1
 ·exact .inr ⟨g,cap,cur,e,by omega,r⟩
end
structure KinP {α β:Type}(P:Program)(K:Kin α β)(t:TypeId)(i:TypeInfo)(z:Value)(bytes:Nat):Prop where
 ht:P.underlying t=some (.slice K.e)
 hi:P.info? K.e=some i
 hz:i.zero=some z
 hs:i.size=K.C
 hb:i.bytes=bytes
 hzs:z.cells.size=K.C
 small:bytes<=1000
section
variable {α β:Type}{K:Kin α β}{P:Program}{t:TypeId}{i:TypeInfo}{z:Value}{bytes:Nat}
theorem zfo (hP:KinP P K t i z bytes)(w:World){base n c:Nat}{v:Value}{l:List β}(h:ownD K w base v n l)(ty:TypeId)(ad:Addr)(a:α)(b:β)
 (hc: ∀ j u,(K.enc a)[j]?=some u->w.cell? (ad.add j)=some u) (hD:K.D w a b) (hf:yau (K.ptrs a) v.ownBlock) (hn:n<1000000) (hbase:base<=w.heap.size):
 ∃ v' w',(Builtin.append_ #[t,t] ty #[v, .slice (some ad) 1 c]).run P w= .ok v' w'/\ownD K w' base v' (n+1) (l++ [b])/\w.grownBy w' v.ownBlock/\(v'.ownBlock=v.ownBlock∨v'.ownBlock=some w.heap.size):=by
 obtain ⟨az,h1,h2,h3⟩:=h
 obtain ⟨v',w',hr,g1,g2,_,g4⟩:=run_append_own_at (P:=P) w base t ty K.e i z K.C bytes hP.ht hP.hi hP.hz hP.hs hP.hb hP.hzs K.pos v n _ h1 ad 1 c (K.enc a) (by rw [K.len];omega) hc (K.one a) (by unfold maxLen;omega)
  (by have:=hP.small;have h5:(n+1)*bytes<=1000000*1000:=Nat.mul_le_mul qF this;omega) hbase
 have hrow: ∀ a'∈az++ [a],yau (K.ptrs a') v.ownBlock:=fun a' ha'=>by
  rcases List.mem_append.1 ha' with hm|hm
  ·exact h3 a' hm
  ·simp at hm;subst hm;exact hf
 have hdeep:dAll (K.D w) (az++ [a]) (l++ [b]):=h2.snoc hD
 refine ⟨v',w',hr,⟨az++ [a],by rw [zc2,zl7];exact g1,?_,?_⟩,g2,g4⟩
 ·exact dAll.of_get hdeep.len fun j x y hx hy=>by
   obtain ⟨y',hy',hr'⟩:=hdeep.get hx
   rw [hy] at hy'
   cases hy'
   exact K.kept hr' g2 (hrow x (qP hx))
 ·intro a' ha' p hp hp0 ad' had'
  obtain ⟨j,hj⟩:=List.getElem?_of_mem ha'
  obtain ⟨y',hy',hr'⟩:=hdeep.get hj
  have hlt:=K.lt hr' p hp hp0 ad' had'
  rcases g4 with e|e
  ·rw [e];exact hrow a' ha' p hp hp0 ad' had'
  ·rw [e];intro e2;injection e2 with e2;omega
variable (w:World){ops:Array Oper}{rest:List Oper}{o:Oper}{a:Act}{Q:Exit->Act->World->Prop}
theorem zaq (hg:o.guard=none)(s x:Operand)(hop:o.op=Op.call { callee:=Callee.builtin Builtin.append,args:= #[s,x],argTypes:= #[t,t]})
 (hP:KinP P K t i z bytes) {base n c:Nat} {v:Value} {l:List β} (h:ownD K w base v n l) (ad:Addr) (el:α) (b:β)
 (hs:a.eval s=v) (hx:a.eval x= .slice (some ad) 1 c)
 (hc: ∀ j u,(K.enc el)[j]?=some u->w.cell? (ad.add j)=some u) (hD:K.D w el b) (hf:yau (K.ptrs el) v.ownBlock) (hn:n<1000000) (hbase:base<=w.heap.size)
 (hK: ∀ v' w',ownD K w' base v' (n+1) (l++ [b])->w.grownBy w' v.ownBlock->(v'.ownBlock=v.ownBlock∨v'.ownBlock=some w.heap.size)->wpList P ops Q rest (a.put o.dst v') w'):wpList P ops Q (o::rest) a w:=by
 refine wpList_plain hg fun K' hK'=>?_
 obtain ⟨v',w',hr,h2,h3,h4⟩:=zfo hP w h o.type ad el b hc hD hf hn hbase (c:=c)
 unfold Oper.wp execOp
 simp only [hop,resolve,invoke,builtin,Sem.run_bind,Sem.run_pure,Result.andThen_ok,List.map_toArray,List.map_cons,List.map_nil,hs,hx,hr]
 exact hK' _ _ (hK v' w' h2 h3 h4)
theorem za3 {K':Act->World->Prop}{E:Prop}(hg:o.guard=none)(s x:Operand)(hop:o.op=Op.call { callee:=Callee.builtin Builtin.append,args:= #[s,x],argTypes:= #[t,t]})
 (hP:KinP P K t i z bytes) {base n c:Nat} {v:Value} {l:List β} (h:ownD K w base v n l) (ad:Addr) (el:α) (b:β)
 (hs:a.eval s=v) (hx:a.eval x= .slice (some ad) 1 c)
 (hc: ∀ j u,(K.enc el)[j]?=some u->w.cell? (ad.add j)=some u) (hD:K.D w el b) (hf:yau (K.ptrs el) v.ownBlock) (hn:n<1000000) (hbase:base<=w.heap.size)
 (hK: ∀ v' w',ownD K w' base v' (n+1) (l++ [b])->w.grownBy w' v.ownBlock->(v'.ownBlock=v.ownBlock∨v'.ownBlock=some w.heap.size)->K' (a.put o.dst v') w'):
 if Region.wanted o (yielded ops a.tmps)=true then Oper.wp P o a w K' Q else E:=by
 have hw:Region.wanted o (yielded ops a.tmps)=true:=by simp [Region.wanted,hg]
 rw [if_pos hw]
 obtain ⟨v',w',hr,h2,h3,h4⟩:=zfo hP w h o.type ad el b hc hD hf hn hbase (c:=c)
 unfold Oper.wp execOp
 simp only [hop,resolve,invoke,builtin,Sem.run_bind,Sem.run_pure,Result.andThen_ok,List.map_toArray,List.map_cons,List.map_nil,hs,hx,hr]
 exact hK v' w' h2 h3 h4
end
theorem zb3 {w1:World}{v:Value}{A:Option Addr}{n:Nat}(hv: ∀ k,v.ownBlock=some k->k<w1.heap.size)(hA: ∀ a,A=some a->w1.heap.size<=a.block):yau [(A,n)] v.ownBlock:=by
 intro p hp _ ad had e
 simp at hp
 subst hp
 have h1:=hA ad had
 have h2:=hv _ e.symm
 omega
theorem zh3 {B:Nat}{v:Value}{A:Option Addr}{n:Nat}(hv: ∀ k,v.ownBlock=some k->B<=k)(hA:0<n-> ∀ a,A=some a->a.block<B):yau [(A,n)] v.ownBlock:=by
 intro p hp h0 ad had e
 simp at hp
 subst hp
 have h1:=hA h0 ad had
 have h2:=hv _ e.symm
 omega
def kVal :Kin Val Val where
 enc:=yat
 C:=3
 e:=46
 ptrs:=fun _=> []
 D:=fun _ a b=>a=b
 len:=za4
 pos:=by omega
 one:=ykh
 later:=fun h _=>h
 kept:=fun h _ _=>h
 lt:=fun _ p hp=>by cases hp
def kInt :Kin Int Int where
 enc:=yaw
 C:=1
 e:=3
 ptrs:=fun _=> []
 D:=fun _ a b=>a=b
 len:=zex
 pos:=by omega
 one:=fun x u hu=>by simp [yaw] at hu;subst hu;rfl
 later:=fun h _=>h
 kept:=fun h _ _=>h
 lt:=fun _ p hp=>by cases hp
def kStr :Kin ByteArray ByteArray where
 enc:=ycd
 C:=1
 e:=9
 ptrs:=fun _=> []
 D:=fun _ a b=>a=b
 len:=zez
 pos:=by omega
 one:=fun x u hu=>by simp [ycd] at hu;subst hu;rfl
 later:=fun h _=>h
 kept:=fun h _ _=>h
 lt:=fun _ p hp=>by cases hp
theorem zdz {α:Type}: ∀ {l m:List α} (_:dAll (fun a b=>a=b) l m),l=m
 | [],[],_=>rfl
 |a::l,b::m,h=>by rw [h.1,zdz h.2]
theorem zbg {α:Type}: ∀ (l:List α),dAll (fun a b=>a=b) l l
 | []=>trivial
 |a::l=>⟨rfl,zbg l⟩
theorem zb4 {w:World}{A:Option Addr}{n:Nat}{l:List Val}:rD kVal w A n l↔rVal w A n l:=
 ⟨fun ⟨az,h1,h2⟩=>by have e:az=l:=zdz h2;subst e;exact h1,fun h=>⟨l,h,zbg l⟩⟩
theorem zgl {w:World}{A:Option Addr}{n:Nat}{l:List Int}:rD kInt w A n l↔rInt w A n l:=
 ⟨fun ⟨az,h1,h2⟩=>by have e:az=l:=zdz h2;subst e;exact h1,fun h=>⟨l,h,zbg l⟩⟩
theorem ymv {w:World}{A:Option Addr}{n:Nat}{l:List ByteArray}:rD kStr w A n l↔rStr w A n l:=
 ⟨fun ⟨az,h1,h2⟩=>by have e:az=l:=zdz h2;subst e;exact h1,fun h=>⟨l,h,zbg l⟩⟩
def kEnt :Kin Ent (List Val × Int) where
 enc:=ya4
 C:=2
 e:=65
 ptrs:=fun a=> [(a.rA,a.rN)]
 D:=dEnt
 len:=za5
 pos:=by omega
 one:=zfn
 later:=fun h hb=>h.later hb
 kept:=fun {w w' row a b} h hg hf=>⟨Fl.kept h.1 hg fun h0 ad e=>hf _ (List.mem_cons_self ..) h0 ad e,h.2⟩
 lt:=fun {w a b} h p hp h0 ad e=>by
  simp at hp
  subst hp
  obtain ⟨b',off,e',hl⟩:=Fl.lt h.1 qF h0
  have e3:=(show a.rA=some ad from e).symm.trans e'
  cases e3
  exact hl
def yah (x:Option Addr × Nat × Nat):List Value:= [.slice x.1 x.2.1 x.2.2]
def kRow :Kin (Option Addr × Nat × Nat) (List Val) where
 enc:=yah
 C:=1
 e:=63
 ptrs:=fun a=> [(a.1,a.2.1)]
 D:=fun w a r=>rVal w a.1 a.2.1 r
 len:=fun _=>rfl
 pos:=by omega
 one:=fun x u hu=>by simp [yah] at hu;subst hu;rfl
 later:=fun h hb=>rVal.later h hb
 kept:=fun {w w' row a b} h hg hf=>Fl.kept h hg fun h0 ad e=>hf _ (List.mem_cons_self ..) h0 ad e
 lt:=fun {w a b} h p hp h0 ad e=>by
  simp at hp
  subst hp
  obtain ⟨b',off,e',hl⟩:=Fl.lt h qF h0
  rw [e] at e'
  cases e'
  exact hl
def held (w:World)(a:Addr):Value:=(w.cell? a).getD undef
theorem zbt {w:World}{a:Addr}{u:Value}(h:w.cell? a=some u):w.cell? a=some (held w a):=by unfold held;rw [h];rfl
theorem zhg {w w':World}{a:Addr}(h:w.cell? a=some (held w a))(hb:Below w.heap.size w w'):w'.cell? a=some (held w' a):=zbt (qM hb h)
theorem zfl {w:World}{a p:Addr}{v:Value}(h:w.cell? a=some (held w a)):(w.setCell p v).cell? a=some (held (w.setCell p v) a):=by
 obtain ⟨v',hv⟩:=cell?_setCell_some (w:=w) (p:=p) (x:=v) (q:=a) (v:=held w a) h
 exact zbt hv
theorem zev {w w':World}{a b c:Nat}{x y z:Value}(h:Below w.heap.size w w'){g:Nat}(hg:w.heap.size<=g):
 Below w.heap.size w (((w'.setCell ⟨g,a,none⟩ x).setCell ⟨g,b,none⟩ y).setCell ⟨g,c,none⟩ z):=((h.setCell (p:=⟨g,a,none⟩) hg _).setCell (p:=⟨g,b,none⟩) hg _).setCell (p:=⟨g,c,none⟩) hg _
theorem zn8 {w:World}{q:Addr}{a b c g:Nat}{x y z:Value}(h:q.block≠g):(((w.setCell ⟨g,a,none⟩ x).setCell ⟨g,b,none⟩ y).setCell ⟨g,c,none⟩ z).cell? q=w.cell? q:=by
 have hne: ∀ o,(⟨g,o,none⟩:Addr)≠q:=fun o e=>h (by rw [<-e])
 rw [World.cell?_setCell_other (h:=hne c),World.cell?_setCell_other (h:=hne b),World.cell?_setCell_other (h:=hne a)]
theorem zic {w w':World}{base e size n:Nat}{v:Value}{xs:List Value}(h:w.ownsRow base e size v n xs)(hb:Below w.heap.size w w'):w'.ownsRow base e size v n xs:=by
 refine h.kept (row:=none) ⟨hb.os,hb.tape,hb.output,hb.size,fun k hk _=>hb.block k hk⟩ ?_
 cases hv:v.ownBlock
 ·exact .inl rfl
 ·exact .inr qH
theorem zap {B:Nat}{w w':World}(h:Below B w.drew w'):Below B w w':=⟨h.os,h.tape,h.output,h.size,h.block⟩
theorem zaf {w0 w w':World}{v:Value}(hB:Below w0.heap.size w0 w)(hg:w.grownBy w' v.ownBlock)(hv: ∀ k,v.ownBlock=some k->w0.heap.size<=k):Below w0.heap.size w0 w':=
 hB.trans (za9 hg hB.size fun k e=>hv k e)
theorem zif {w:World}{A:Option Addr}{n:Nat}{l:List Val}(h:rVal w A n l)(h0:0<n)(a:Addr)(e:A=some a):a.block<w.heap.size:=by
 obtain ⟨b,off,e2,hl⟩:=Fl.lt h qF h0
 rw [e2] at e
 cases e
 exact hl
section
variable {α β:Type}{K:Kin α β}{P:Program}{t:TypeId}{i:TypeInfo}{z:Value}{bytes:Nat}
theorem zgz (w:World){e:TypeId}(ht:P.underlying t=some (.slice e))(hi:P.info? e=some i)(ty:TypeId)(c:Nat):(Builtin.append_ #[t,t] ty #[.slice none 0 0, .slice none 0 c]).run P w= .ok (.slice none 0 0) w:=by
 simp [Builtin.append_,run_underlying ht,sizeOf,typeInfo,hi,Builtin.lenOf,Builtin.firstCells]
theorem zgp (hP:KinP P K t i z bytes)(w:World){A:Option Addr}{n c:Nat}{l:List β}(h:rD K w A n l)(ty:TypeId)(hn:n<1000000):
 ∃ v' w',(Builtin.append_ #[t,t] ty #[.slice none 0 0, .slice A n c]).run P w= .ok v' w'/\ownD K w' w.heap.size v' n l/\w.grownBy w' none:=by
 obtain ⟨az,h1,h2⟩:=h
 cases A with
 |none=>
  have hn0:n=0:=by
   rcases Nat.eq_zero_or_pos n with h0|h0
   ·exact h0
   ·obtain ⟨b,off,e,_⟩:=h1.2 h0
    cases e
  subst hn0
  have hl:az= []:=List.eq_nil_of_length_eq_zero (by have:=h1.count K.len K.pos;omega)
  subst hl
  have hl2:l= []:=List.eq_nil_of_length_eq_zero (by have:=h2.len;simpa using this.symm)
  subst hl2
  exact ⟨_,_,zgz w hP.ht hP.hi ty c,ownD.nil _ _,World.grownBy.refl w _⟩
 |some ad=>
  obtain ⟨v',w',hr,g1,g2,_,g4⟩:=run_append_own_at (P:=P) w w.heap.size t ty K.e i z K.C bytes hP.ht hP.hi hP.hz hP.hs hP.hb hP.hzs K.pos (.slice none 0 0) 0 [] (World.ownsRow_nil w _ _ _) ad n c (flat K.enc az) h1.1 h1.news
   (fun u hu=>by obtain ⟨x,_,hx⟩:=List.mem_flatMap.1 hu;exact K.one x u hx) (by unfold maxLen;omega)
   (by have:=hP.small;have h5:(0+n)*bytes<=1000000*1000:=Nat.mul_le_mul qF this;omega) (qV _)
  rw [Nat.zero_add,List.nil_append] at g1
  refine ⟨v',w',hr,⟨az,g1,?_,?_⟩,g2⟩
  ·exact dAll.of_get h2.len fun j x y hx hy=>by
    obtain ⟨y',hy',hr'⟩:=h2.get hx
    rw [hy] at hy'
    cases hy'
    exact K.kept hr' g2 (fun p _ _ ad' _=>by simp [Value.ownBlock])
  ·intro a' ha' p hp hp0 ad' had'
   obtain ⟨j,hj⟩:=List.getElem?_of_mem ha'
   obtain ⟨y',hy',hr'⟩:=h2.get hj
   have hlt:=K.lt hr' p hp hp0 ad' had'
   rcases g4 with e|e
   ·rw [e];simp [Value.ownBlock]
   ·rw [e];intro e2;injection e2 with e2;omega
variable (w:World){ops:Array Oper}{rest:List Oper}{o:Oper}{a:Act}{Q:Exit->Act->World->Prop}
theorem zg1 (hg:o.guard=none)(s x:Operand)(hop:o.op=Op.call { callee:=Callee.builtin Builtin.append,args:= #[s,x],argTypes:= #[t,t]})
 (hP:KinP P K t i z bytes) {A:Option Addr} {n c:Nat} {l:List β} (h:rD K w A n l) (hs:a.eval s= .slice none 0 0) (hx:a.eval x= .slice A n c) (hn:n<1000000)
 (hK: ∀ v' w',ownD K w' w.heap.size v' n l->w.grownBy w' none->wpList P ops Q rest (a.put o.dst v') w'):wpList P ops Q (o::rest) a w:=by
 refine wpList_plain hg fun K' hK'=>?_
 obtain ⟨v',w',hr,h2,h3⟩:=zgp hP w h o.type hn (c:=c)
 unfold Oper.wp execOp
 simp only [hop,resolve,invoke,builtin,Sem.run_bind,Sem.run_pure,Result.andThen_ok,List.map_toArray,List.map_cons,List.map_nil,hs,hx,hr]
 exact hK' _ _ (hK v' w' h2 h3)
theorem zjo {K':Act->World->Prop}{E:Prop}(hg:o.guard=none)(s x:Operand)(hop:o.op=Op.call { callee:=Callee.builtin Builtin.append,args:= #[s,x],argTypes:= #[t,t]})
 (hP:KinP P K t i z bytes) {A:Option Addr} {n c:Nat} {l:List β} (h:rD K w A n l) (hs:a.eval s= .slice none 0 0) (hx:a.eval x= .slice A n c) (hn:n<1000000)
 (hK: ∀ v' w',ownD K w' w.heap.size v' n l->w.grownBy w' none->K' (a.put o.dst v') w'):
 if Region.wanted o (yielded ops a.tmps)=true then Oper.wp P o a w K' Q else E:=by
 have hw:Region.wanted o (yielded ops a.tmps)=true:=by simp [Region.wanted,hg]
 rw [if_pos hw]
 obtain ⟨v',w',hr,h2,h3⟩:=zgp hP w h o.type hn (c:=c)
 unfold Oper.wp execOp
 simp only [hop,resolve,invoke,builtin,Sem.run_bind,Sem.run_pure,Result.andThen_ok,List.map_toArray,List.map_cons,List.map_nil,hs,hx,hr]
 exact hK v' w' h2 h3
end
theorem zcr {w w':World}(hg:w.grownBy w' none):Below w.heap.size w w':=za9 hg (qV _) (fun k h=>by cases h)
def ybb (B:Nat):Kin Ent (List Val × Int) where
 enc:=ya4
 C:=2
 e:=65
 ptrs:=fun a=> [(a.rA,a.rN)]
 D:=fun w e x=>dEnt w e x/\(0<e.rN-> ∀ a,e.rA=some a->B<=a.block)
 len:=za5
 pos:=by omega
 one:=zfn
 later:=fun h hb=>⟨h.1.later hb,h.2⟩
 kept:=fun h hg hf=>⟨kEnt.kept h.1 hg hf,h.2⟩
 lt:=fun h=>kEnt.lt h.1
def rTabF (w:World)(B:Nat)(A:Option Addr)(n:Nat)(t:Tab):Prop:=rD (ybb B) w A n t/\(0<n-> ∀ a,A=some a->B<=a.block)
theorem rTabF.tab {w:World}{B:Nat}{A:Option Addr}{n:Nat}{t:Tab}(h:rTabF w B A n t):rTab w A n t:=by
 obtain ⟨⟨es,h1,h2⟩,_⟩:=h
 exact ⟨es,h1,h2.imp fun _ _ h=>h.1⟩
theorem rTabF.mono {w:World}{B B':Nat}{A:Option Addr}{n:Nat}{t:Tab}(h:rTabF w B A n t)(hB:B'<=B):rTabF w B' A n t:=by
 obtain ⟨⟨es,h1,h2⟩,h3⟩:=h
 exact ⟨⟨es,h1,h2.imp fun _ _ h=>⟨h.1,fun h0 a e=>qR hB (h.2 h0 a e)⟩⟩,fun h0 a e=>qR hB (h3 h0 a e)⟩
theorem rTabF.later {w w':World}{B:Nat}{A:Option Addr}{n:Nat}{t:Tab}(h:rTabF w B A n t)(hb:Below w.heap.size w w'):rTabF w' B A n t:=⟨rD.later h.1 hb,h.2⟩
theorem Fl.from {w w':World}{B C:Nat}{A:Option Addr}{n:Nat}{xs:List Value}(h:Fl w C A n xs)(hA:0<n-> ∀ a,A=some a->B<=a.block)(hs: ∀ b,B<=b->b<w.heap.size->w'.heap[b]?=w.heap[b]?):Fl w' C A n xs:=
 ⟨h.1,fun hn=>by
  obtain ⟨b,off,e,hc⟩:=h.2 hn
  refine ⟨b,off,e,fun j u hx=>?_⟩
  have hcj:=hc j u hx
  rw [World.cell?_of_block (w:=w) (hs b (hA hn _ e) (qX _ _ hcj))]
  exact hcj⟩
theorem rTabF.other {w w':World}{B:Nat}{A:Option Addr}{n:Nat}{t:Tab}(h:rTabF w B A n t)(hs: ∀ b,B<=b->b<w.heap.size->w'.heap[b]?=w.heap[b]?):rTabF w' B A n t:=by
 obtain ⟨⟨es,h1,h2⟩,h3⟩:=h
 exact ⟨⟨es,h1.from h3 hs,h2.imp fun _ _ h=>⟨⟨Fl.from h.1.1 h.2 hs,h.1.2⟩,h.2⟩⟩,h3⟩
end
end
end Go.Proofs.YthcalfeoejdcgaaGreatDoor
